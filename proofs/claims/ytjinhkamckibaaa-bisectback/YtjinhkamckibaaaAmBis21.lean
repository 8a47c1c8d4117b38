import Derived.Test.YtjinhkamckibaaaAmBis15
set_option linter.all false
/- Messages read, as the document has them. -/
section
namespace Am.Bis
open Am Go Am.Ir Am.Sha
set_option maxRecDepth 100000

theorem MsgAt.p5i {S : St} {q : Nat} {m : Msg} {b : AVal} (h : MsgAt S q m b) {i : Nat} (hi : i < 32) (c : UInt8) :
    ∃ S', storeA 1 (.ptr q 0 (5 + i)) (.int .u8 (c.toNat : Int)) S = some S' ∧ MsgAt S' q { m with h := m.h.set i c } b ∧ Keeps S S' [q] := by
  have hb : (bcells m.h).length = 32 := by rw [bcells_len, h.h]
  have hsp : splice (m.c b) (5 + i) [.int .u8 (c.toNat : Int)] = ({ m with h := m.h.set i c } : Msg).c b := by
    have e1 : splice (m.c b) (5 + i) [.int .u8 (c.toNat : Int)] = (m.c b).set (5 + i) (.int .u8 (c.toNat : Int)) := by
      have hlt : 5 + i < (m.c b).length := by rw [c_len h.h]; omega
      rw [List.set_eq_take_append_cons_drop, if_pos hlt]
      simp [splice]
    rw [e1, c_split, c_split, List.set_append_right _ _ (by simp)]
    rw [show 5 + i - [AVal.int .i64 m.k, .str m.s, .str m.n, .int .i64 m.lo, .int .i64 m.hi].length = i from by simp, List.set_append_left _ _ (by omega)]
    simp [bcells, List.map_set]
  exact ⟨_, store1 h.at' rfl (by rw [c_len h.h]; omega), ⟨by rw [hsp]; simp [live_lt h.at'], by simp [h.h]⟩, Keeps.set ..⟩

noncomputable def oParse2 : Orc := orc [xTakeBytes2, xTakeString2, mMay2]
noncomputable def xParse2 : Model := exM oParse2 r21_parse 100

def partH (r : List UInt8) (i : Nat) : List UInt8 := (r.drop 2).take i ++ List.replicate (32 - i) 0

theorem partH_set {r : List UInt8} {i : Nat} (hr : 34 ≤ r.length) (hi : i < 32) : (partH r i).set i (r.getD (2 + i) 0) = partH r (i + 1) := by
  have hl : ((r.drop 2).take i).length = i := by rw [List.length_take, List.length_drop]; omega
  have hrep : List.replicate (32 - i) (0 : UInt8) = 0 :: List.replicate (32 - (i + 1)) 0 := by
    rw [← List.replicate_succ]; congr 1; omega
  unfold partH
  rw [List.set_append_right _ _ (by omega), hl, Nat.sub_self, hrep, List.set_cons_zero, List.take_add_one, List.getElem?_drop]
  have : r[2 + i]? = some (r.getD (2 + i) 0) := by
    rw [List.getElem?_eq_getElem (by omega)]
    simp [List.getD, List.getElem?_eq_getElem (show 2 + i < r.length by omega)]
  rw [this]; simp

theorem hash_loop {f : Fr} {T : St} {z : AVal} {r : List UInt8} {q : Nat} {m : Msg} {z2 : AVal} (hr : 34 ≤ r.length) (hrl : r.length ≤ 10000)
    (hz : ∀ {T' : St}, Keeps T T' [q] → Rd T' z r) (hm : MsgAt T q { m with h := partH r 0 } .nils) (h0 : f.get 0 = z) (h2 : f.get 2 = z2) (h10 : f.get 10 = .ptr q 0 0) (h11 : f.get 11 = .int .i64 0) :
    Post (evC oParse2 100 r21_parse_s1 f T) fun e f' T' => e = .normal ∧ f'.get 0 = z ∧ f'.get 2 = z2 ∧ f'.get 10 = .ptr q 0 0 ∧ MsgAt T' q { m with h := (r.drop 2).take 32 } .nils ∧ Keeps T T' [q] := by
  obtain ⟨f', T', g1, g2⟩ := loop_post (O := oParse2) (k := 100) (id := 0) (b := r21_parse_l0)
    (I := fun i f T' => f.get 0 = z ∧ f.get 2 = z2 ∧ f.get 10 = .ptr q 0 0 ∧ f.get 11 = .int .i64 (i : Int) ∧ MsgAt T' q { m with h := partH r i } .nils ∧ Keeps T T' [q])
    (Q := fun f' T' => f'.get 0 = z ∧ f'.get 2 = z2 ∧ f'.get 10 = .ptr q 0 0 ∧ MsgAt T' q { m with h := (r.drop 2).take 32 } .nils ∧ Keeps T T' [q]) 32 (by omega)
    (by
      rintro i hi f T1 ⟨g0, g2, g10, g11, gm, gk⟩
      have hlss : binA .lss (.int .i64 (i : Int)) (.int .i64 32) = some (.bool true) := lss_t (by omega)
      have had : binA .add (.int .i64 2) (.int .i64 (i : Int)) = some (.int .i64 ((2 + i : Nat) : Int)) := add_is (by omega) (by omega) (by omega)
      have hnx : binA .add (.int .i64 (i : Int)) (.int .i64 1) = some (.int .i64 ((i + 1 : Nat) : Int)) := add_is (by omega) (by omega) (by omega)
      obtain ⟨p, hp, hld⟩ := (hz gk).ix (i := 2 + i) (by omega)
      have hl := hld (hz gk)
      have hia : iaddrAA 1 32 (.ptr q 0 5) (.int .i64 (i : Int)) = some (.ptr q 0 (5 + i)) := by rw [iaA (by omega) (by omega)]; simp
      obtain ⟨T2, p2, a2, k2⟩ := gm.p5i hi (r.getD (2 + i) 0)
      simp only [partH_set hr hi] at a2
      suffices hmid : Post (evC oParse2 100 r21_parse_l0 f T1) (fun e f' T' => e = .normal ∧ T' = T2 ∧ f'.get 0 = z ∧ f'.get 2 = z2 ∧ f'.get 10 = .ptr q 0 0 ∧ f'.get 11 = .int .i64 ((i + 1 : Nat) : Int)) by
        refine hmid.mono ?_
        rintro e f' T' ⟨rfl, rfl, c1, c2, c3, c4⟩
        exact ⟨rfl, c1, c2, c3, c4, a2, gk.trans k2 (fun q hq => .inl hq)⟩
      generalize ((r.getD (2 + i) 0).toNat : Int) = zc at *
      generalize ((i + 1 : Nat) : Int) = zi1 at *
      generalize ((2 + i : Nat) : Int) = zi2 at *
      generalize (i : Int) = zi at *
      simp [r21_parse_l0, exM, orc, orcD, evF, evC, evOps, evOper, evAny, evOp, evCall, putR, putA, Fr.ev, Fr.of, Fr.get, Fr.set, stable, junkA, junkL, resultsA, resA, same, oParse2, Fr.get_set, g0, g2, g10, g11, hlss, had, hnx, hp, hl, faddrA, hia, p2, Post_some])
    (by
      rintro f T1 ⟨g0, g2, g10, g11, gm, gk⟩
      have e32 : partH r 32 = (r.drop 2).take 32 := by simp [partH]
      rw [e32] at gm
      have hlss : binA .lss (.int .i64 ((32 : Nat) : Int)) (.int .i64 32) = some (.bool false) := rfl
      suffices hmid : Post (evC oParse2 100 r21_parse_l0 f T1) (fun e f' T' => e = .exit 0 ∧ T' = T1 ∧ f'.get 0 = z ∧ f'.get 2 = z2 ∧ f'.get 10 = .ptr q 0 0) by
        refine hmid.mono ?_
        rintro e f' T' ⟨rfl, rfl, c1, c2, c3⟩
        exact ⟨rfl, c1, c2, c3, gm, gk⟩
      generalize ((32 : Nat) : Int) = zi at *
      simp [r21_parse_l0, exM, orc, orcD, evF, evC, evOps, evOper, evAny, evOp, evCall, putR, putA, Fr.ev, Fr.of, Fr.get, Fr.set, stable, junkA, junkL, resultsA, resA, same, oParse2, Fr.get_set, g0, g2, g10, g11, hlss, Post_some])
    (f := f) (S := T) ⟨h0, h2, h10, h11, hm, Keeps.refl ..⟩
  rw [show r21_parse_s1 = .block 0 (.loop r21_parse_l0) from rfl, g1]
  exact Post.of rfl ⟨rfl, g2⟩

/-- What a parse gives, as the document has it. -/
def ParseR2 (S : St) (x : AVal) (u : List UInt8) (v : AVal) (T : St) : Prop :=
  ∃ (cs : List AVal) (y : AVal), v = .tup [.agg cs, .bool (parseF u).isSome] ∧ cs.length = 38 ∧ Keeps S T [] ∧ ∀ m w, parseF u = some (m, w) → cs = m.c y ∧ ∀ U, Rd U x u → Rd U y w

theorem fill_5 (k : Int) (s n : List UInt8) (lo hi : Int) : fillA (zM.c .nils) [(0, 1, .int .i64 k), (1, 1, .str s), (2, 1, .str n), (3, 1, .int .i64 lo), (4, 1, .int .i64 hi)] =
    some ((⟨k, s, n, lo, hi, List.replicate 32 0⟩ : Msg).c .nils) := rfl

theorem takeStr_nil (most : Nat) : takeStr most [] = ([], [], 2) := rfl

set_option maxHeartbeats 4000000 in
theorem parse2_ok {S : St} {x : AVal} {u : List UInt8} (hx : Rd S x u) (hul : u.length ≤ 10000) :
    ∃ v T, xParse2 [x] S = some (v, T) ∧ ParseR2 S x u v T := by
  have zl : (zM.c .nils).length = 38 := c_len zM_h _
  obtain ⟨S1, hS1⟩ : ∃ S1 : St, S ++ [.live 0 (zM.c .nils)] = S1 := ⟨_, rfl⟩
  have k1 : Keeps S S1 [] := by rw [← hS1]; exact Keeps.append ..
  have q1 : S1[S.length]? = some (.live 0 (zM.c .nils)) := by rw [← hS1]; simp
  have hS1l : S1.length = S.length + 1 := by rw [← hS1]; simp
  cases u with
  | nil =>
    have p1 : xTakeBytes2 [x, .int .i64 1] S1 = _ := takeBytes2_short (hx.keep k1) 1 (by simp)
    obtain ⟨S2, p2, a2, k2⟩ := put38 q1 zl zl
    have ld := load38 a2 zl
    refine ⟨.tup [.agg (zM.c .nils), .bool false], S2, ?_, zM.c .nils, .nils, rfl, zl, k1.after k2 (Nat.le_refl _), by simp [parseF]⟩
    unfold xParse2 exM
    refine evF_post rfl rfl ?_
    simp only [r21_parse, Post_seq]
    simp [exM, orc, orcD, evF, evC, evOps, evOper, evAny, evOp, evCall, putR, putA, Fr.ev, Fr.of, Fr.get, Fr.set, stable, junkA, junkL, resultsA, resA, same, oParse2, zlit, hS1, p1, binA, intBin, fill_0, p2, ld, resultsA, resA, Fr.get_set, Post_some]
  | cons c u =>
    obtain ⟨yk, y0, p1, R1⟩ := takeBytes2_ok (hx.keep k1) (by omega) 1 (by simp)
    have p1 : xTakeBytes2 [x, .int .i64 1] S1 = _ := p1
    have R1 : ∀ U, Rd U x (c :: u) → Rd U yk [c] ∧ Rd U y0 u := R1
    have r1 := (R1 S1 (hx.keep k1)).2
    simp only [List.length_cons] at hul
    obtain ⟨y5, z5, S4, p4, k4, R5⟩ := takeString2_ok r1 (by omega) 12 (by omega)
    have p4 : xTakeString2 [y0, .int .i64 12] S1 = _ := p4
    have t1 := @takeStr_fst 12 u
    obtain ⟨t, ht⟩ : ∃ t, takeStr 12 u = t := ⟨_, rfl⟩
    rw [ht] at p4 R5 t1
    have R5' : ∀ U, Rd U x (c :: u) → Rd U y5 t.1 ∧ Rd U z5 t.2.1 := fun U hU => R5 U (R1 U hU).2
    have r5 := (R5' S4 ((hx.keep k1).keep k4)).2
    obtain ⟨y8, z8, S5, p5, k5, R8⟩ := takeString2_ok r5 (by omega) 12 (by omega)
    have p5 : xTakeString2 [z5, .int .i64 12] S4 = _ := p5
    have t2 := @takeStr_fst 12 t.2.1
    obtain ⟨t', ht'⟩ : ∃ t', takeStr 12 t.2.1 = t' := ⟨_, rfl⟩
    rw [ht'] at p5 R8 t2
    have R8' : ∀ U, Rd U x (c :: u) → Rd U y8 t'.1 ∧ Rd U z8 t'.2.1 := fun U hU => R8 U (R5' U hU).2
    have q15 := k5.get (k4.get q1 (by simp)) (by simp)
    have kS5 : Keeps S S5 [] := (k1.after0 k4).after0 k5
    obtain ⟨S6, p6, a6, k6⟩ := put38 q15 zl zl
    have ld6 := load38 a6 zl
    by_cases e1 : t.2.2 = 0
    rotate_left
    · have b1 : binA .neq (.int .i64 (t.2.2 : Int)) (.int .i64 0) = some (.bool true) := neq_t (by omega)
      refine ⟨.tup [.agg (zM.c .nils), .bool false], S6, ?_, zM.c .nils, .nils, ?_, zl, kS5.after k6 (Nat.le_refl _), ?_⟩
      · unfold xParse2 exM
        refine evF_post rfl rfl ?_
        simp only [r21_parse, Post_seq]
        generalize (t.2.2 : Int) = ze at *
        generalize (t'.2.2 : Int) = ze' at *
        simp [exM, orc, orcD, evF, evC, evOps, evOper, evAny, evOp, evCall, putR, putA, Fr.ev, Fr.of, Fr.get, Fr.set, stable, junkA, junkL, resultsA, resA, same, oParse2, zlit, hS1, p1, binA, intBin, p4, p5, fill_0, p6, ld6, resultsA, resA, Fr.get_set, Post_some] at b1 ⊢
        simp [exM, orc, orcD, evF, evC, evOps, evOper, evAny, evOp, evCall, putR, putA, Fr.ev, Fr.of, Fr.get, Fr.set, stable, junkA, junkL, resultsA, resA, same, oParse2, b1, zlit, p6, ld6, fill_0, resultsA, resA, Post_some]
      · simp [parseF, ht, e1]
      · simp [parseF, ht, e1]
    have b1 : binA .neq (.int .i64 (t.2.2 : Int)) (.int .i64 0) = some (.bool false) := neq_f (by omega)
    have hx5 := hx.keep kS5
    obtain ⟨n8, r8⟩ := R8' S5 hx5
    have hlen8 := r8.len
    by_cases e2 : t'.2.2 = 0
    rotate_left
    · have b2 : binA .neq (.int .i64 (t'.2.2 : Int)) (.int .i64 0) = some (.bool true) := neq_t (by omega)
      refine ⟨.tup [.agg (zM.c .nils), .bool false], S6, ?_, zM.c .nils, .nils, ?_, zl, kS5.after k6 (Nat.le_refl _), ?_⟩
      · unfold xParse2 exM
        refine evF_post rfl rfl ?_
        simp only [r21_parse, Post_seq]
        generalize (t.2.2 : Int) = ze at *
        generalize (t'.2.2 : Int) = ze' at *
        have b0 : binA .neq (.int .i64 0) (.int .i64 0) = some (.bool false) := rfl
        simp [exM, orc, orcD, evF, evC, evOps, evOper, evAny, evOp, evCall, putR, putA, Fr.ev, Fr.of, Fr.get, Fr.set, stable, junkA, junkL, resultsA, resA, same, oParse2, zlit, hS1, p1, b0, p4, p5, b1, b2, fill_0, p6, ld6, resultsA, resA, Fr.get_set, Post_some]
      · simp [parseF, ht, e1, ht', e2]
      · simp [parseF, ht, e1, ht', e2]
    have b2 : binA .neq (.int .i64 (t'.2.2 : Int)) (.int .i64 0) = some (.bool false) := neq_f (by omega)
    by_cases e3 : t'.2.1.length < 34
    · have b3 : binA .lss (.int .i64 (t'.2.1.length : Int)) (.int .i64 34) = some (.bool true) := lss_t (by omega)
      refine ⟨.tup [.agg (zM.c .nils), .bool false], S6, ?_, zM.c .nils, .nils, ?_, zl, kS5.after k6 (Nat.le_refl _), ?_⟩
      · unfold xParse2 exM
        refine evF_post rfl rfl ?_
        simp only [r21_parse, Post_seq]
        generalize (t.2.2 : Int) = ze at *
        generalize (t'.2.2 : Int) = ze' at *
        generalize (t'.2.1.length : Int) = zl' at *
        have b0 : binA .neq (.int .i64 0) (.int .i64 0) = some (.bool false) := rfl
        simp [exM, orc, orcD, evF, evC, evOps, evOper, evAny, evOp, evCall, putR, putA, Fr.ev, Fr.of, Fr.get, Fr.set, stable, junkA, junkL, resultsA, resA, same, oParse2, zlit, hS1, p1, b0, p4, p5, b1, b2, hlen8, b3, fill_0, p6, ld6, resultsA, resA, Fr.get_set, Post_some]
      · simp [parseF, ht, e1, ht', e2, e3]
      · simp [parseF, ht, e1, ht', e2, e3]
    have b3 : binA .lss (.int .i64 (t'.2.1.length : Int)) (.int .i64 34) = some (.bool false) := lss_f (by omega)
    clear k6 ld6 a6 p6
    -- what was read, in one message
    have k15 : Keeps S1 S5 [] := k4.after0 k5
    obtain ⟨pk, ik, dk⟩ := at0 (u := [c]) (by simp) (R1 S5 hx5).1
    have cl := UInt8.toNat_lt c
    have cv : IntKind.i64.wrap (c.toNat : Int) = (c.toNat : Int) := conv_i64 (by omega) (by omega)
    have lk := dk (R1 S5 hx5).1
    have n55 := (R5' S5 hx5).1
    have by5 := Bis.Rd.bytes n55
    have by8 := Bis.Rd.bytes n8
    obtain ⟨a0p, a0i, a0d⟩ := at0 (by omega) r8
    obtain ⟨a1p, a1i, a1d⟩ := at1 (by omega) r8
    have la0 := a0d r8
    have la1 := a1d r8
    have cv0 : IntKind.i64.wrap ((t'.2.1.getD 0 0).toNat : Int) = ((t'.2.1.getD 0 0).toNat : Int) := by have := UInt8.toNat_lt (t'.2.1.getD 0 0); exact conv_i64 (by omega) (by omega)
    have cv1 : IntKind.i64.wrap ((t'.2.1.getD 1 0).toNat : Int) = ((t'.2.1.getD 1 0).toNat : Int) := by have := UInt8.toNat_lt (t'.2.1.getD 1 0); exact conv_i64 (by omega) (by omega)
    rw [show [c].getD 0 0 = c from rfl] at lk
    have f5 := fill_5 (c.toNat : Int) t.1 t'.1 ((t'.2.1.getD 0 0).toNat : Int) ((t'.2.1.getD 1 0).toNat : Int)
    obtain ⟨m0, hm0⟩ : ∃ m0 : Msg, m0 = ⟨(c.toNat : Int), t.1, t'.1, ((t'.2.1.getD 0 0).toNat : Int), ((t'.2.1.getD 1 0).toNat : Int), List.replicate 32 0⟩ := ⟨_, rfl⟩
    rw [← hm0] at f5
    have hm0h : m0.h.length = 32 := by rw [hm0]; simp
    obtain ⟨S7, p7, k7, g7, l7⟩ := new38 S5 (c_len hm0h .nils)
    have k56 : Keeps S5 (S5 ++ [.live 0 (zM.c .nils)]) [] := Keeps.append ..
    have hx6 := hx5.keep k56
    have lk7 := dk (R1 _ hx6).1
    rw [show [c].getD 0 0 = c from rfl] at lk7
    have by57 := Bis.Rd.bytes (n55.keep k56)
    have by87 := Bis.Rd.bytes (n8.keep k56)
    have la07 := a0d (r8.keep k56)
    have la17 := a1d (r8.keep k56)
    have A7 : MsgAt S7 S5.length { m0 with h := partH t'.2.1 0 } .nils := ⟨by rw [g7, hm0]; simp [partH], by simp [partH]⟩
    have hz : ∀ {T' : St}, Keeps S7 T' [S5.length] → Rd T' z8 t'.2.1 := fun hk => (R8' _ (hx5.keep (k7.after hk (Nat.le_refl _)))).2
    obtain ⟨m, hm⟩ : ∃ m : Msg, m = ⟨(c.toNat : Int), t.1, t'.1, ((t'.2.1.getD 0 0).toNat : Int), ((t'.2.1.getD 1 0).toNat : Int), (t'.2.1.drop 2).take 32⟩ := ⟨_, rfl⟩
    have hmm : ({ m0 with h := (t'.2.1.drop 2).take 32 } : Msg) = m := by rw [hm, hm0]
    have hmh : m.h.length = 32 := by rw [hm]; simp only [List.length_take, List.length_drop]; omega
    have hOk : m.Ok := by
      have := UInt8.toNat_lt (t'.2.1.getD 0 0)
      have := UInt8.toNat_lt (t'.2.1.getD 1 0)
      refine ⟨hmh, ?_, ?_, ?_, ?_, ?_⟩ <;> rw [hm] <;> simp only <;> omega
    have t3 := @takeStr_fst 256 (t'.2.1.drop 34)
    obtain ⟨t'', ht''⟩ : ∃ t'', takeStr 256 (t'.2.1.drop 34) = t'' := ⟨_, rfl⟩
    have hpF : parseF (c :: u) = if t''.2.2 = 0 ∧ t''.2.1 = [] ∧ mayL m t''.1 = true then some (m, t''.1) else none := by
      simp only [parseF, ht, ht', ht'', e1, e2, e3, hm]
      simp
    suffices hs : Post (evC oParse2 100 r21_parse.body (Fr.of [x]) S) (fun e f T => (e = .normal ∨ e = .ret) ∧ ∃ y, resultsA f T r21_parse.results = some (.tup [.agg (m.c y), .bool (decide (t''.2.2 = 0 ∧ t''.2.1 = [] ∧ mayL m t''.1 = true))]) ∧ Keeps S T [] ∧ ∀ U, Rd U x (c :: u) → Rd U y t''.1) by
      obtain ⟨e, f, T, g1, g2, y, g3, g4, g5⟩ := hs.ex
      refine ⟨_, T, evF_post rfl rfl (Post.of g1 ⟨g2, g3, rfl⟩), m.c y, y, ?_, c_len hmh y, g4, ?_⟩
      · rw [hpF]; split
        · rename_i h; simp [h]
        · rename_i h; simp [h]
      · intro m' w' h
        rw [hpF] at h
        split at h
        · simp only [Option.some.injEq, Prod.mk.injEq] at h
          obtain ⟨rfl, rfl⟩ := h
          exact ⟨rfl, g5⟩
        · simp at h
    obtain ⟨D, hD⟩ : ∃ D, decide (t''.2.2 = 0 ∧ t''.2.1 = [] ∧ mayL m t''.1 = true) = D := ⟨_, rfl⟩
    rw [hD]
    simp only [r21_parse, Post_seq]
    have b0 : binA .neq (.int .i64 0) (.int .i64 0) = some (.bool false) := rfl
    generalize hzlo : ((t'.2.1.getD 0 0).toNat : Int) = zlo at *
    generalize hzhi : ((t'.2.1.getD 1 0).toNat : Int) = zhi at *
    generalize (t.2.2 : Int) = ze at *
    generalize (t'.2.2 : Int) = ze' at *
    generalize (t'.2.1.length : Int) = zl' at *
    generalize (c.toNat : Int) = zc at *
    simp [exM, orc, orcD, evF, evC, evOps, evOper, evAny, evOp, evCall, putR, putA, Fr.ev, Fr.of, Fr.get, Fr.set, stable, junkA, junkL, resultsA, resA, same, oParse2, zlit, hS1, p1, b0, p4, p5, b1, b2, hlen8, b3, ik, lk, cv, by5, by8, a0i, la0, cv0, a1i, la1, cv1, f5, p7, lk7, by57, by87, la07, la17, trL, sameRead, sameVal, beqV_refl, Fr.get_set, Post_some]
    simp only [r21_parse_t2, Post_seq]
    simp [exM, orc, orcD, evF, evC, evOps, evOper, evAny, evOp, evCall, putR, putA, Fr.ev, Fr.of, Fr.get, Fr.set, stable, junkA, junkL, resultsA, resA, same, Fr.get_set, Post_some]
    refine Post.mono (hash_loop (z := z8) (r := t'.2.1) (q := S5.length) (m := m0) (z2 := .ptr S.length 0 0) (by omega) (by omega) hz A7 (by rfl) (by rfl) (by rfl) (by rfl)) ?_
    rintro e f' T8 ⟨rfl, g0, g2, g10, A8, k8⟩
    rw [hmm] at A8
    have k78 : Keeps S5 T8 [] := k7.after k8 (Nat.le_refl _)
    have r88 := hz k8
    obtain ⟨x3, i3, r3⟩ := from34 (by omega) r88
    obtain ⟨y9, z9, S11, p11, k11, R9⟩ := takeString2_ok r3 (by simp; omega) 256 (by omega)
    have p11 : xTakeString2 [x3, .int .i64 256] T8 = _ := p11
    rw [ht''] at p11 R9 t3
    have R9' : ∀ U, Rd U x (c :: u) → Rd U y9 t''.1 ∧ Rd U z9 t''.2.1 := by
      intro U hU
      obtain ⟨x4, h4, h5⟩ := from34 (by omega) (R8' U hU).2
      rw [i3] at h4; cases h4
      exact R9 U h5
    have hx11 := (hx5.keep k78).keep k11
    have A11 := A8.keep k11
    obtain ⟨S12, p12, A12, k12⟩ := A11.p37 (Rd.cell (R9' S11 hx11).1)
    have k512 : Keeps S5 S12 [] := (k78.after0 k11).after k12 (Nat.le_refl _)
    have hx12 := hx5.keep k512
    obtain ⟨n912, r912⟩ := R9' S12 hx12
    have hlen9 := r912.len
    have ld12 : loadA (some 38) (.ptr S5.length 0 0) S12 = some (.agg (m.c y9)) := (MsgAt.ld A12).2.2.2.2.2.2.2
    have hmay := mMay2_ok hOk n912 (by omega)
    have q212 : S12[S.length]? = some (.live 0 (zM.c .nils)) := k512.get q15 (by simp)
    obtain ⟨S13, p13, a13, k13⟩ := put38 q212 zl (c_len hmh y9)
    have ld13 : loadA (some 38) (.ptr S.length 0 0) S13 = some (.agg (m.c y9)) := (MsgAt.ld ⟨a13, hmh⟩).2.2.2.2.2.2.2
    have kAll : Keeps S S13 [] := (kS5.after0 k512).after k13 (Nat.le_refl _)
    simp only [if_pos]
    clear hpF hmm R1 R5 R5' R8 R8' R9 hz
    by_cases e4 : t''.2.2 = 0
    rotate_left
    · have b4 : binA .eql (.int .i64 (t''.2.2 : Int)) (.int .i64 0) = some (.bool false) := eql_f (by omega)
      have hd : decide (t''.2.2 = 0 ∧ t''.2.1 = [] ∧ mayL m t''.1 = true) = false := by simp [e4]
      rw [hD] at hd
      subst hd
      generalize (t''.2.2 : Int) = ze'' at *
      simp [exM, orc, orcD, evF, evC, evOps, evOper, evAny, evOp, evCall, putR, putA, Fr.ev, Fr.of, Fr.get, Fr.set, stable, junkA, junkL, resultsA, resA, same, oParse2, Fr.get_set, g0, g2, g10, i3, p11, faddrA, p12, ld12, b4, hlen9, p13, ld13, trL, sameRead, sameVal, beqV_refl, resultsA, resA, Post_some]
      exact ⟨y9, rfl, kAll, fun U hU => (R9' U hU).1⟩
    have b4 : binA .eql (.int .i64 (t''.2.2 : Int)) (.int .i64 0) = some (.bool true) := eql_t (by omega)
    by_cases e5 : t''.2.1 = []
    rotate_left
    · have : t''.2.1.length ≠ 0 := fun h => e5 (List.length_eq_zero_iff.1 h)
      have b5 : binA .eql (.int .i64 (t''.2.1.length : Int)) (.int .i64 0) = some (.bool false) := eql_f (by omega)
      have hd : decide (t''.2.2 = 0 ∧ t''.2.1 = [] ∧ mayL m t''.1 = true) = false := by simp [e5]
      rw [hD] at hd
      subst hd
      generalize (t''.2.2 : Int) = ze'' at *
      generalize (t''.2.1.length : Int) = zl'' at *
      simp [exM, orc, orcD, evF, evC, evOps, evOper, evAny, evOp, evCall, putR, putA, Fr.ev, Fr.of, Fr.get, Fr.set, stable, junkA, junkL, resultsA, resA, same, oParse2, Fr.get_set, g0, g2, g10, i3, p11, faddrA, p12, ld12, b4, b5, hlen9, p13, ld13, trL, sameRead, sameVal, beqV_refl, resultsA, resA, Post_some]
      exact ⟨y9, rfl, kAll, fun U hU => (R9' U hU).1⟩
    have b5 : binA .eql (.int .i64 (t''.2.1.length : Int)) (.int .i64 0) = some (.bool true) := eql_t (by simp [e5])
    have hd : decide (t''.2.2 = 0 ∧ t''.2.1 = [] ∧ mayL m t''.1 = true) = mayL m t''.1 := by
      cases hmv : mayL m t''.1 <;> simp [e4, e5]
    rw [hD] at hd
    subst hd
    clear hD
    generalize mayL m t''.1 = dd at *
    generalize (t''.2.2 : Int) = ze'' at *
    generalize (t''.2.1.length : Int) = zl'' at *
    simp [exM, orc, orcD, evF, evC, evOps, evOper, evAny, evOp, evCall, putR, putA, Fr.ev, Fr.of, Fr.get, Fr.set, stable, junkA, junkL, resultsA, resA, same, oParse2, Fr.get_set, g0, g2, g10, i3, p11, faddrA, p12, ld12, b4, b5, hlen9, hmay, p13, ld13, trL, sameRead, sameVal, beqV_refl, resultsA, resA, Post_some]
    exact ⟨y9, rfl, kAll, fun U hU => (R9' U hU).1⟩
end Am.Bis
end

/- Messages read, as the document has them: Decode; what is alike. -/
section
namespace Am.Bis
open Am Go Am.Ir Am.Sha
set_option maxRecDepth 100000

noncomputable def xDecode2 : Model := exM (orc [mSum2, xParse2]) r21_Decode 10

theorem decode2_ok {S : St} {x : AVal} {u : List UInt8} (hx : Rd S x u) (hul : u.length ≤ 10000) :
    ∃ y T, xDecode2 [x] S = some (.tup [.agg ((decM u).1.c y), .int .i64 (decF u).2], T) ∧ Keeps S T [] ∧ Rd T y (decM u).2 := by
  have hlen := hx.len
  have zl : (zM.c .nils).length = 38 := c_len zM_h _
  obtain ⟨S1, hS1⟩ : ∃ S1 : St, S ++ [.live 0 (zM.c .nils)] = S1 := ⟨_, rfl⟩
  have k1 : Keeps S S1 [] := by rw [← hS1]; exact Keeps.append ..
  have q1 : S1[S.length]? = some (.live 0 (zM.c .nils)) := by rw [← hS1]; simp
  have e1 : binA .sub (.int .i64 (u.length : Int)) (.int .i64 4) = some (.int .i64 ((u.length : Int) - 4)) := sub_i (by omega) (by omega)
  by_cases h600 : 600 < u.length
  · have e2 : binA .gtr (.int .i64 (u.length : Int)) (.int .i64 600) = some (.bool true) := gtr_t (by omega)
    obtain ⟨S2, p2, a2, k2⟩ := put38 q1 zl zl
    have ld := load38 a2 zl
    have hd : decF u = (none, 4) := by simp [decF, h600]
    have hm : decM u = (zM, []) := by simp [decM, hd]
    rw [hd, hm]
    refine ⟨.nils, S2, ?_, k1.after k2 (Nat.le_refl _), nilRd _⟩
    generalize (u.length : Int) - 4 = zz at *
    generalize (u.length : Int) = zl at *
    simp [xDecode2, exM, r21_Decode, exM, orc, orcD, evF, evC, evOps, evOper, evAny, evOp, evCall, putR, putA, Fr.ev, Fr.of, Fr.get, Fr.set, stable, junkA, junkL, resultsA, resA, same, zlit, hS1, hlen, e1, e2, fill_0, p2, ld, resultsA, resA, Fr.get_set]
  have e2 : binA .gtr (.int .i64 (u.length : Int)) (.int .i64 600) = some (.bool false) := gtr_f (by omega)
  by_cases h4 : u.length < 4
  · have e3 : binA .lss (.int .i64 (u.length : Int)) (.int .i64 4) = some (.bool true) := lss_t (by omega)
    obtain ⟨S2, p2, a2, k2⟩ := put38 q1 zl zl
    have ld := load38 a2 zl
    have hd : decF u = (none, 14) := by simp [decF, h600, h4]
    have hm : decM u = (zM, []) := by simp [decM, hd]
    rw [hd, hm]
    refine ⟨.nils, S2, ?_, k1.after k2 (Nat.le_refl _), nilRd _⟩
    generalize (u.length : Int) - 4 = zz at *
    generalize (u.length : Int) = zl at *
    simp [xDecode2, exM, r21_Decode, exM, orc, orcD, evF, evC, evOps, evOper, evAny, evOp, evCall, putR, putA, Fr.ev, Fr.of, Fr.get, Fr.set, stable, junkA, junkL, resultsA, resA, same, zlit, hS1, hlen, e1, e2, e3, fill_0, p2, ld, resultsA, resA, Fr.get_set]
  have e3 : binA .lss (.int .i64 (u.length : Int)) (.int .i64 4) = some (.bool false) := lss_f (by omega)
  have hz : (u.length : Int) - 4 = ((u.length - 4 : Nat) : Int) := by omega
  obtain ⟨x1, i1, r1⟩ := Bis.Rd.upto hx (n := u.length - 4) (by omega)
  obtain ⟨x2, i2, r2⟩ := hx.from (n := u.length - 4) (by omega)
  rw [← hz] at i1 i2
  have hsum := sum2_ok (r1.keep k1) (by rw [List.length_take]; omega)
  have hsl := sha_len (u.take (u.length - 4))
  obtain ⟨S2, p2, k2, g2, l2⟩ := new32 S1 hsl
  have k02 := k1.after0 k2
  obtain ⟨f4, r4⟩ := first4 hsl g2
  have by4 := Bis.Rd.bytes r4
  have by2 := Bis.Rd.bytes (r2.keep k02)
  have heq : binA .neq (.str ((sha (u.take (u.length - 4))).take 4)) (.str (u.drop (u.length - 4))) = some (.bool !((sha (u.take (u.length - 4))).take 4 == u.drop (u.length - 4))) := by simp only [binA, strBin]
  have q2 : S2[S.length]? = some (.live 0 (zM.c .nils)) := k2.get q1 (by simp)
  by_cases hs : (sha (u.take (u.length - 4))).take 4 = u.drop (u.length - 4)
  rotate_left
  · have hb : ((sha (u.take (u.length - 4))).take 4 == u.drop (u.length - 4)) = false := by simpa using hs
    rw [hb] at heq
    obtain ⟨S3, p3, a3, k3⟩ := put38 q2 zl zl
    have ld := load38 a3 zl
    have hd : decF u = (none, 14) := by simp [decF, h600, h4, hs]
    have hm : decM u = (zM, []) := by simp [decM, hd]
    rw [hd, hm]
    refine ⟨.nils, S3, ?_, k02.after k3 (Nat.le_refl _), nilRd _⟩
    generalize (u.length : Int) - 4 = zz at *
    generalize (u.length : Int) = zl at *
    generalize bcells (sha (u.take (u.length - 4))) = H at *
    generalize (sha (u.take (u.length - 4))).take 4 = w4 at *
    generalize u.drop (u.length - 4) = v4 at *
    simp [xDecode2, exM, r21_Decode, exM, orc, orcD, evF, evC, evOps, evOper, evAny, evOp, evCall, putR, putA, Fr.ev, Fr.of, Fr.get, Fr.set, stable, junkA, junkL, resultsA, resA, same, zlit, hS1, hlen, e1, e2, e3, i1, hsum, p2, f4, i2, by4, by2, heq, unA, fill_0, p3, ld, resultsA, resA, Fr.get_set]
  have hb : ((sha (u.take (u.length - 4))).take 4 == u.drop (u.length - 4)) = true := by simpa using hs
  rw [hb] at heq
  obtain ⟨v, S3, p3, cs, y, rfl, hcl, k3, hres⟩ := parse2_ok (r1.keep k02) (by rw [List.length_take]; omega)
  obtain ⟨S4, p4, k4, g4, l4⟩ := new38 S3 hcl
  have k03 := k02.after0 k3
  have k04 := k03.after0 k4
  have q4 : S4[S.length]? = some (.live 0 (zM.c .nils)) := k4.get (k3.get q2 (by simp)) (by simp)
  have ld4 := load38 g4 hcl
  cases hp : parseF (u.take (u.length - 4)) with
  | none =>
    rw [hp] at p3
    simp only [Option.isSome_none] at p3
    obtain ⟨S5, p5, a5, k5⟩ := put38 q4 zl zl
    have ld := load38 a5 zl
    have hd : decF u = (none, 3) := by simp [decF, h600, h4, hs, hp]
    have hm : decM u = (zM, []) := by simp [decM, hd]
    rw [hd, hm]
    refine ⟨.nils, S5, ?_, k04.after k5 (Nat.le_refl _), nilRd _⟩
    generalize (u.length : Int) - 4 = zz at *
    generalize (u.length : Int) = zl at *
    generalize bcells (sha (u.take (u.length - 4))) = H at *
    generalize (sha (u.take (u.length - 4))).take 4 = w4 at *
    generalize u.drop (u.length - 4) = v4 at *
    simp [xDecode2, exM, r21_Decode, exM, orc, orcD, evF, evC, evOps, evOper, evAny, evOp, evCall, putR, putA, Fr.ev, Fr.of, Fr.get, Fr.set, stable, junkA, junkL, resultsA, resA, same, zlit, hS1, hlen, e1, e2, e3, i1, hsum, p2, f4, i2, by4, by2, heq, unA, p3, p4, fill_0, p5, ld, resultsA, resA, Fr.get_set]
  | some p =>
    rw [hp] at p3
    simp only [Option.isSome_some] at p3
    obtain ⟨m, w⟩ := p
    obtain ⟨rfl, hnb⟩ := hres m w hp
    obtain ⟨S5, p5, a5, k5⟩ := put38 q4 zl hcl
    have ld := load38 a5 hcl
    have hd : decF u = (some (m, w), 0) := by simp [decF, h600, h4, hs, hp]
    have hm : decM u = (m, w) := by simp [decM, hd]
    rw [hd, hm]
    refine ⟨y, S5, ?_, k04.after k5 (Nat.le_refl _), hnb _ (by
      obtain ⟨x3, h3, h4⟩ := Bis.Rd.upto (hx.keep (k04.after k5 (Nat.le_refl _))) (n := u.length - 4) (by omega)
      rw [← hz, i1] at h3; cases h3; exact h4)⟩
    generalize (u.length : Int) - 4 = zz at *
    generalize (u.length : Int) = zl at *
    generalize bcells (sha (u.take (u.length - 4))) = H at *
    generalize (sha (u.take (u.length - 4))).take 4 = w4 at *
    generalize u.drop (u.length - 4) = v4 at *
    generalize m.c y = M at *
    simp [xDecode2, exM, r21_Decode, exM, orc, orcD, evF, evC, evOps, evOper, evAny, evOp, evCall, putR, putA, Fr.ev, Fr.of, Fr.get, Fr.set, stable, junkA, junkL, resultsA, resA, same, zlit, hS1, hlen, e1, e2, e3, i1, hsum, p2, f4, i2, by4, by2, heq, unA, p3, p4, ld4, p5, ld, resultsA, resA, Fr.get_set]
end Am.Bis
end

/- There and back: the plain law. -/
section
namespace Am.Bis
open Am Go Am.Ir Am.Sha
set_option maxRecDepth 100000

theorem takeN_put {n : Nat} (hn : n ≤ 1000) (r : List UInt8) : takeN (putF 10 n ++ r) = (n, r, 0) := by
  by_cases h : n < 128
  · have e : putF 10 n = [UInt8.ofNat n] := by simp [putF, h]
    have h1 : (UInt8.ofNat n).toNat = n := by simp; omega
    rw [e]
    simp only [takeN, List.cons_append, List.nil_append, takeF, h1]
    rw [if_neg (by omega), if_pos (by simp [short])]
    simp; omega
  · have e : putF 10 n = [UInt8.ofNat (n % 128 + 128), UInt8.ofNat (n / 128)] := by
      have : n / 128 < 128 := by omega
      simp [putF, h, this]
    have h1 : (UInt8.ofNat (n % 128 + 128)).toNat = n % 128 + 128 := by simp; omega
    have h2 : (UInt8.ofNat (n / 128)).toNat = n / 128 := by simp; omega
    rw [e]
    simp only [takeN, List.cons_append, List.nil_append, takeF, h1, h2]
    rw [if_pos (by omega), if_neg (by omega), if_pos (by simp [short, h2]; omega)]
    simp; omega

theorem takeStr_put {most : Nat} {s r : List UInt8} (hs : s.length ≤ most) (hm : most ≤ 1000) : takeStr most (putStr s ++ r) = (s, r, 0) := by
  have h1 : takeN (putStr s ++ r) = (s.length, s ++ r, 0) := by
    rw [putStr, List.append_assoc]; exact takeN_put (by omega) _
  unfold takeStr
  rw [h1]
  rw [if_neg (by simp), if_neg (by simp only; omega), if_neg (by simp)]
  simp

/-- What is read shortly was written so. -/
theorem takeF_inv : ∀ (k : Nat) (p u : List UInt8) {n : Nat} {rest : List UInt8}, (∀ x ∈ p, 128 ≤ x.toNat) → p.length + k = 10 → takeF k (valB p) u = (n, rest, 0) → p ++ u = putF 10 n ++ rest
  | 0, _, _, _, _, _, _, h => by simp [takeF] at h
  | _ + 1, _, [], _, _, _, _, h => by simp [takeF] at h
  | k + 1, p, c :: u, n, rest, hp, hl, h => by
    have hj : 9 - k = p.length := by omega
    have hc := UInt8.toNat_lt c
    simp only [takeF, hj] at h
    split at h
    · rename_i h128
      by_cases h8 : p.length ≤ 8
      · have e : valB p + (c.toNat - 128) * 128 ^ p.length % 2 ^ 64 = valB (p ++ [c]) := by
          rw [valB_app, mul_small (by omega) h8]
        rw [e] at h
        have := takeF_inv k (p ++ [c]) u (by
          intro x hx
          rcases List.mem_append.1 hx with hx | hx
          · exact hp x hx
          · have : x = c := by simpa using hx
            rw [this]; exact h128) (by simp; omega) h
        rw [← this]; simp
      · have : k = 0 := by omega
        subst this
        simp [takeF] at h
    · rename_i h128
      split at h
      · rename_i hs
        simp only [Prod.mk.injEq, and_true] at h
        obtain ⟨rfl, rfl⟩ := h
        rw [(put_iff p c hp (by omega) (by omega)).2 hs]
        simp
      · simp at h

theorem takeN_inv {u rest : List UInt8} {n : Nat} (h : takeN u = (n, rest, 0)) : u = putF 10 n ++ rest := takeF_inv 10 [] u (by simp) rfl h

theorem takeStr_inv {most : Nat} {u : List UInt8} (h : (takeStr most u).2.2 = 0) : u = putStr (takeStr most u).1 ++ (takeStr most u).2.1 ∧ (takeStr most u).1.length ≤ most := by
  refine ⟨?_, takeStr_fst.1⟩
  revert h
  unfold takeStr
  obtain ⟨n, hn⟩ : ∃ n, (takeN u).1 = n := ⟨_, rfl⟩
  obtain ⟨w, hw⟩ : ∃ w, (takeN u).2.1 = w := ⟨_, rfl⟩
  rw [hn, hw]
  split
  · rename_i h1; intro h; exact absurd h h1
  · rename_i h1
    have h1 : (takeN u).2.2 = 0 := by omega
    split
    · intro h; simp at h
    · split
      · intro h; simp at h
      · rename_i h3
        intro _
        have h4 : u = putF 10 n ++ w := takeN_inv (by rw [← hn, ← hw, ← h1])
        have h5 : (w.take n).length = n := by rw [List.length_take]; omega
        simp only [putStr, h5]
        rw [List.append_assoc, List.take_append_drop, h4]

theorem u8i_nat (c : UInt8) : u8i (c.toNat : Int) = c := by
  have hc := UInt8.toNat_lt c
  have : ((c.toNat : Int) % 256).toNat = c.toNat := by omega
  simp [u8i, this]
theorem u8i_to {n : Int} (h0 : 0 ≤ n) (h1 : n < 256) : ((u8i n).toNat : Int) = n := by rw [← u8i_wrap]; exact conv_u8 h0 (by omega)

theorem parse_ahead {m : Msg} {w : List UInt8} (h : m.h.length = 32) (hm : mayL m w = true) : parseF (aheadL m w) = some (m, w) := by
  obtain ⟨-, hw, hs, hn, hk, h1, h2, h3, h4⟩ := may_ok' h hm
  have e1 : aheadL m w = u8i m.k :: (putStr m.s ++ (putStr m.n ++ ([u8i m.lo, u8i m.hi] ++ m.h ++ (putStr w ++ [])))) := by simp [aheadL]
  have t1 := takeStr_put (most := 12) (s := m.s) (r := putStr m.n ++ ([u8i m.lo, u8i m.hi] ++ m.h ++ (putStr w ++ []))) hs (by omega)
  have t2 := takeStr_put (most := 12) (s := m.n) (r := [u8i m.lo, u8i m.hi] ++ m.h ++ (putStr w ++ [])) hn (by omega)
  have t3 := takeStr_put (most := 256) (s := w) (r := []) hw (by omega)
  have d34 : ([u8i m.lo, u8i m.hi] ++ m.h ++ (putStr w ++ [])).drop 34 = putStr w ++ [] := List.drop_left' (by simp [h])
  have d2 : (([u8i m.lo, u8i m.hi] ++ m.h ++ (putStr w ++ [])).drop 2).take 32 = m.h := by
    rw [List.append_assoc, List.drop_left' (by rfl), List.take_left' h]
  have g0 : ([u8i m.lo, u8i m.hi] ++ m.h ++ (putStr w ++ [])).getD 0 0 = u8i m.lo := rfl
  have g1 : ([u8i m.lo, u8i m.hi] ++ m.h ++ (putStr w ++ [])).getD 1 0 = u8i m.hi := rfl
  have hm' : (⟨((u8i m.k).toNat : Int), m.s, m.n, ((u8i m.lo).toNat : Int), ((u8i m.hi).toNat : Int), m.h⟩ : Msg) = m := by
    rw [u8i_to (by omega) (by omega), u8i_to (by omega) (by omega), u8i_to (by omega) (by omega)]
  rw [e1]
  simp only [parseF, t1, t2, d34, t3, d2, g0, g1, hm', hm]
  rw [if_neg (by simp), if_neg (by simp [h]), if_pos ⟨trivial, trivial, trivial⟩]

theorem ahead_parse {u : List UInt8} {m : Msg} {w : List UInt8} (h : parseF u = some (m, w)) : aheadL m w = u := by
  cases u with
  | nil => simp [parseF] at h
  | cons c u =>
    simp only [parseF] at h
    split at h
    · simp at h
    · rename_i e1
      split at h
      · simp at h
      · rename_i e2
        split at h
        · rename_i e3
          simp only [Option.some.injEq, Prod.mk.injEq] at h
          obtain ⟨rfl, rfl⟩ := h
          have e1 : (takeStr 12 u).2.2 = 0 := by omega
          have e20 : (takeStr 12 (takeStr 12 u).2.1).2.2 = 0 := by omega
          obtain ⟨a1, -⟩ := takeStr_inv e1
          obtain ⟨a2, -⟩ := takeStr_inv e20
          obtain ⟨a3, -⟩ := takeStr_inv e3.1
          rw [e3.2.1, List.append_nil] at a3
          obtain ⟨r, hr⟩ : ∃ r, (takeStr 12 (takeStr 12 u).2.1).2.1 = r := ⟨_, rfl⟩
          have hrl : 34 ≤ r.length := by rw [← hr]; omega
          rw [hr] at a2 a3
          have hr2 : r = [r.getD 0 0, r.getD 1 0] ++ (r.drop 2).take 32 ++ r.drop 34 := by
            match r, hrl with
            | x :: y :: r, _ =>
              show x :: y :: r = x :: y :: (r.take 32 ++ r.drop 32)
              rw [List.take_append_drop]
          simp only [aheadL, u8i_nat, hr]
          have e : [c] ++ putStr (takeStr 12 u).1 ++ putStr (takeStr 12 (takeStr 12 u).2.1).1 ++ [r.getD 0 0, r.getD 1 0] ++ (r.drop 2).take 32 ++ putStr (takeStr 256 (r.drop 34)).1 =
              [c] ++ (putStr (takeStr 12 u).1 ++ (putStr (takeStr 12 (takeStr 12 u).2.1).1 ++ ([r.getD 0 0, r.getD 1 0] ++ (r.drop 2).take 32 ++ putStr (takeStr 256 (r.drop 34)).1))) := by simp only [List.append_assoc]
          rw [e, ← a3, ← hr2, ← a2, ← a1]
          rfl
        · simp at h

theorem ahead_len {m : Msg} {w : List UInt8} (h : m.h.length = 32) (hm : mayL m w = true) : (aheadL m w).length ≤ 345 := by
  obtain ⟨-, hw, hs, hn, -⟩ := may_ok' h hm
  have a := @putStr_len m.s
  have b := @putStr_len m.n
  have c := @putStr_len w
  simp [aheadL, h]; omega

theorem dec_enc {m : Msg} {w : List UInt8} (h : m.h.length = 32) (hm : mayL m w = true) : decF (encL m w) = (some (m, w), 0) := by
  have hl := ahead_len h hm
  have h4 : ((sha (aheadL m w)).take 4).length = 4 := by simp [sha_len]
  have hel : (encL m w).length = (aheadL m w).length + 4 := by simp [encL, sha_len]
  have e1 : (encL m w).take ((encL m w).length - 4) = aheadL m w := by rw [hel]; exact List.take_left' (by omega)
  have e2 : (encL m w).drop ((encL m w).length - 4) = (sha (aheadL m w)).take 4 := by rw [hel]; exact List.drop_left' (by omega)
  unfold decF
  rw [if_neg (by omega), if_neg (by omega), e1, e2, if_neg (by simp), parse_ahead h hm]

theorem enc_dec {u : List UInt8} {m : Msg} {w : List UInt8} (h : (decF u).1 = some (m, w)) : encL m w = u := by
  unfold decF at h
  split at h
  · simp at h
  · split at h
    · simp at h
    · split at h
      · simp at h
      · rename_i h1 h2 h3
        have h3 : (sha (u.take (u.length - 4))).take 4 = u.drop (u.length - 4) := by simpa using h3
        split at h
        · simp at h
        · rename_i p hp
          simp only [Option.some.injEq] at h
          subst h
          have := ahead_parse hp
          simp only [encL, this, h3, List.take_append_drop]

theorem dec_none {u : List UInt8} (h : (decF u).1 = none) : (decF u).2 ≠ 0 := by
  unfold decF at h ⊢
  split
  · simp
  · rename_i h1
    rw [if_neg h1] at h
    split
    · simp
    · rename_i h2
      rw [if_neg h2] at h
      split
      · simp
      · rename_i h3
        rw [if_neg h3] at h
        split
        · simp
        · rename_i p hp
          rw [hp] at h; simp at h
end Am.Bis
end

/- Messages: alike, plain, small; the live question. -/
section
namespace Am.Bis
open Am Go Am.Ir Am.Sha
set_option maxRecDepth 100000

theorem splice5 {m : Msg} (hh : m.h.length = 32) (b : AVal) {u : List UInt8} (hu : u.length = 32) : splice (m.c b) 5 (bcells u) = ({ m with h := u } : Msg).c b := by
  have hb : (bcells m.h).length = 32 := by rw [bcells_len, hh]
  simp only [splice, c_split, bcells_len, hu]
  rw [List.take_left' (by rfl), List.drop_append, List.drop_of_length_le (by simp)]
  rw [show 5 + 32 - [AVal.int .i64 m.k, .str m.s, .str m.n, .int .i64 m.lo, .int .i64 m.hi].length = 32 from rfl, List.drop_left' hb]
  simp
theorem splice37 {m : Msg} (hh : m.h.length = 32) (b v : AVal) : splice (m.c b) 37 [v] = m.c v := by
  have hb : (bcells m.h).length = 32 := by rw [bcells_len, hh]
  have e : m.c b = ([AVal.int .i64 m.k, .str m.s, .str m.n, .int .i64 m.lo, .int .i64 m.hi] ++ bcells m.h) ++ [b] := rfl
  simp only [splice]
  rw [e, List.take_left' (by simp [hb]), List.drop_of_length_le (by simp [hb])]
  simp [Msg.c]

theorem fillA_cons {cells : List AVal} {o z : Nat} {v : AVal} {cs : List AVal} {rest : List (Nat × Nat × AVal)} (hv : cells? v = some cs) (hz : cs.length = z) (ho : o + z ≤ cells.length) :
    fillA cells ((o, z, v) :: rest) = fillA (splice cells o cs) rest := by
  simp only [fillA, hv]
  rw [if_pos ⟨hz, ho⟩]

theorem fill_7 {m : Msg} (hh : m.h.length = 32) {b : AVal} (hb : cells? b = some [b]) :
    fillA (zM.c .nils) [(0, 1, .int .i64 m.k), (1, 1, .str m.s), (2, 1, .str m.n), (3, 1, .int .i64 m.lo), (4, 1, .int .i64 m.hi), (5, 32, .agg (bcells m.h)), (37, 1, b)] = some (m.c b) := by
  have z0 := zM_h
  have step : ∀ (cs : List AVal) (o : Nat) (v : AVal) (rest : List (Nat × Nat × AVal)), cells? v = some [v] → o + 1 ≤ cs.length → fillA cs ((o, 1, v) :: rest) = fillA (splice cs o [v]) rest :=
    fun _ _ _ _ hv ho => fillA_cons hv rfl ho
  rw [step (zM.c .nils) 0 (.int .i64 m.k) _ rfl (by rw [c_len (by exact z0)]; omega), show splice (zM.c .nils) 0 [.int .i64 m.k] = ({ zM with k := m.k } : Msg).c .nils from rfl]
  rw [step _ 1 (.str m.s) _ rfl (by rw [c_len (by exact z0)]; omega), show splice (({ zM with k := m.k } : Msg).c .nils) 1 [.str m.s] = ({ zM with k := m.k, s := m.s } : Msg).c .nils from rfl]
  rw [step _ 2 (.str m.n) _ rfl (by rw [c_len (by exact z0)]; omega), show splice (({ zM with k := m.k, s := m.s } : Msg).c .nils) 2 [.str m.n] = ({ zM with k := m.k, s := m.s, n := m.n } : Msg).c .nils from rfl]
  rw [step _ 3 (.int .i64 m.lo) _ rfl (by rw [c_len (by exact z0)]; omega), show splice (({ zM with k := m.k, s := m.s, n := m.n } : Msg).c .nils) 3 [.int .i64 m.lo] = ({ m with hi := 0, h := zM.h } : Msg).c .nils from rfl]
  rw [step _ 4 (.int .i64 m.hi) _ rfl (by rw [c_len (by exact z0)]; omega), show splice (({ m with hi := 0, h := zM.h } : Msg).c .nils) 4 [.int .i64 m.hi] = ({ m with h := zM.h } : Msg).c .nils from rfl]
  rw [fillA_cons (v := .agg (bcells m.h)) (cs := bcells m.h) (z := 32) (o := 5) rfl (by rw [bcells_len, hh]) (by rw [c_len (by exact z0)]; omega), splice5 (m := { m with h := zM.h }) z0 _ hh]
  rw [step _ 37 b _ hb (by rw [c_len hh]; omega), splice37 hh]; rfl

noncomputable def xPlain : Model := exM (orc []) l21_plain 10

theorem plain_ok {S : St} {m : Msg} {b : AVal} (hh : m.h.length = 32) (hb : cells? b = some [b]) : ∃ T, xPlain [.agg (m.c b)] S = some (.agg (m.c b), T) ∧ Keeps S T [] := by
  obtain ⟨S1, hS1⟩ : ∃ S1 : St, S ++ [.live 0 (m.c b)] = S1 := ⟨_, rfl⟩
  have k1 : Keeps S S1 [] := by rw [← hS1]; exact Keeps.append ..
  have A1 : MsgAt S1 S.length m b := ⟨by rw [← hS1]; simp, hh⟩
  obtain ⟨S2, hS2⟩ : ∃ S2 : St, S1 ++ [.live 0 (zM.c .nils)] = S2 := ⟨_, rfl⟩
  have k2 : Keeps S1 S2 [] := by rw [← hS2]; exact Keeps.append ..
  have hq : S2[S1.length]? = some (.live 0 (zM.c .nils)) := by rw [← hS2]; simp
  obtain ⟨l0, l1, l2, l3, l4, l5, l37, -⟩ := (A1.keep k2).ld
  obtain ⟨S3, p3, a3, k3⟩ := put38 hq (c_len zM_h _) (c_len hh b)
  have ld := load38 a3 (c_len hh b)
  have hf := fill_7 hh hb
  have hcell : cells? (.agg (m.c b)) = some (m.c b) := rfl
  refine ⟨S3, ?_, (k1.after0 k2).after k3 k1.1⟩
  generalize m.c b = M at *
  simp [xPlain, exM, l21_plain, exM, orc, orcD, evF, evC, evOps, evOper, evAny, evOp, evCall, putR, putA, Fr.ev, Fr.of, Fr.get, Fr.set, stable, junkA, junkL, resultsA, resA, same, zlit, hcell, hS1, hS2, faddrA, l0, l1, l2, l3, l4, l5, l37, hf, p3, ld, resultsA, resA, Fr.get_set]

noncomputable def xSame : Model := exM (orc []) r21_Same 10

theorem same_ok {S : St} {m : Msg} {b b' : AVal} {w : List UInt8} (hh : m.h.length = 32) (hb : Rd S b w) (hb' : Rd S b' w) :
    ∃ T, xSame [.agg (m.c b), .agg (m.c b')] S = some (.bool true, T) ∧ Keeps S T [] := by
  obtain ⟨S1, hS1⟩ : ∃ S1 : St, S ++ [.live 0 (m.c b)] = S1 := ⟨_, rfl⟩
  have k1 : Keeps S S1 [] := by rw [← hS1]; exact Keeps.append ..
  have A1 : MsgAt S1 S.length m b := ⟨by rw [← hS1]; simp, hh⟩
  obtain ⟨S2, hS2⟩ : ∃ S2 : St, S1 ++ [.live 0 (m.c b')] = S2 := ⟨_, rfl⟩
  have k2 : Keeps S1 S2 [] := by rw [← hS2]; exact Keeps.append ..
  have A2 : MsgAt S2 S1.length m b' := ⟨by rw [← hS2]; simp, hh⟩
  have hS12 : S ++ [ABlock.live 0 (m.c b), .live 0 (m.c b')] = S2 := by rw [← hS2, ← hS1]; simp
  have k02 := k1.after0 k2
  have y1 := Bis.Rd.bytes (hb.keep k02)
  have y2 := Bis.Rd.bytes (hb'.keep k02)
  obtain ⟨l0, l1, l2, l3, l4, l5, l37, -⟩ := (A1.keep k2).ld
  obtain ⟨n0, n1, n2, n3, n4, n5, n37, -⟩ := A2.ld
  have e0 : binA .eql (.int .i64 m.k) (.int .i64 m.k) = some (.bool true) := eql_t rfl
  have e3 : binA .eql (.int .i64 m.lo) (.int .i64 m.lo) = some (.bool true) := eql_t rfl
  have e4 : binA .eql (.int .i64 m.hi) (.int .i64 m.hi) = some (.bool true) := eql_t rfl
  have s1 : binA .eql (.str m.s) (.str m.s) = some (.bool true) := by simp [binA, strBin]
  have s2 : binA .eql (.str m.n) (.str m.n) = some (.bool true) := by simp [binA, strBin]
  have s3 : binA .eql (.str w) (.str w) = some (.bool true) := by simp [binA, strBin]
  have e5 := eq32 hh hh
  simp only [beq_self_eq_true] at e5
  have hcell : cells? (.agg (m.c b)) = some (m.c b) := rfl
  have hcell' : cells? (.agg (m.c b')) = some (m.c b') := rfl
  refine ⟨S2, ?_, k02⟩
  generalize m.c b = M at *
  generalize m.c b' = M' at *
  simp [xSame, exM, r21_Same, exM, orc, orcD, evF, evC, evOps, evOper, evAny, evOp, evCall, putR, putA, Fr.ev, Fr.of, Fr.get, Fr.set, stable, junkA, junkL, resultsA, resA, same, hcell, hcell', hS1, hS2, hS12, faddrA, l0, l1, l2, l3, l4, l5, l37, n0, n1, n2, n3, n4, n5, n37, e0, e3, e4, s1, s2, e5, y1, y2, s3, Fr.get_set]

noncomputable def xSmall : Model := exM (orc []) l21_small 10

theorem small_ok {S : St} {m : Msg} {b : AVal} {w : List UInt8} (hh : m.h.length = 32) (hb : Rd S b w) :
    xSmall [.agg (m.c b)] S = some (.bool (decide (m.s.length ≤ 20 ∧ m.n.length ≤ 20 ∧ w.length ≤ 300)), S ++ [.live 0 (m.c b)]) := by
  obtain ⟨S1, hS1⟩ : ∃ S1 : St, S ++ [.live 0 (m.c b)] = S1 := ⟨_, rfl⟩
  have k1 : Keeps S S1 [] := by rw [← hS1]; exact Keeps.append ..
  have A1 : MsgAt S1 S.length m b := ⟨by rw [← hS1]; simp, hh⟩
  obtain ⟨-, l1, l2, -, -, -, l37, -⟩ := A1.ld
  have hlen := (hb.keep k1).len
  have hcell : cells? (.agg (m.c b)) = some (m.c b) := rfl
  have n1 : lenA .str (.str m.s) = some (.int .i64 (m.s.length : Int)) := rfl
  have n2 : lenA .str (.str m.n) = some (.int .i64 (m.n.length : Int)) := rfl
  rw [hS1]
  by_cases h1 : m.s.length ≤ 20
  · have e1 : binA .leq (.int .i64 (m.s.length : Int)) (.int .i64 20) = some (.bool true) := leq_t (by omega)
    by_cases h2 : m.n.length ≤ 20
    · have e2 : binA .leq (.int .i64 (m.n.length : Int)) (.int .i64 20) = some (.bool true) := leq_t (by omega)
      have e3 : binA .leq (.int .i64 (w.length : Int)) (.int .i64 300) = some (.bool (decide (w.length ≤ 300))) := by simp [binA, intBin]; omega
      have hd : decide (m.s.length ≤ 20 ∧ m.n.length ≤ 20 ∧ w.length ≤ 300) = decide (w.length ≤ 300) := by simp [h1, h2]
      rw [hd]
      generalize decide (w.length ≤ 300) = D at *
      generalize (m.s.length : Int) = z1 at *
      generalize (m.n.length : Int) = z2 at *
      generalize (w.length : Int) = z3 at *
      generalize m.c b = M at *
      simp [xSmall, exM, l21_small, exM, orc, orcD, evF, evC, evOps, evOper, evAny, evOp, evCall, putR, putA, Fr.ev, Fr.of, Fr.get, Fr.set, stable, junkA, junkL, resultsA, resA, same, hcell, hS1, faddrA, l1, l2, l37, n1, n2, hlen, e1, e2, e3, Fr.get_set]
    · have e2 : binA .leq (.int .i64 (m.n.length : Int)) (.int .i64 20) = some (.bool false) := leq_f (by omega)
      have hd : decide (m.s.length ≤ 20 ∧ m.n.length ≤ 20 ∧ w.length ≤ 300) = false := by simp [h2]
      rw [hd]
      generalize (m.s.length : Int) = z1 at *
      generalize (m.n.length : Int) = z2 at *
      generalize m.c b = M at *
      simp [xSmall, exM, l21_small, exM, orc, orcD, evF, evC, evOps, evOper, evAny, evOp, evCall, putR, putA, Fr.ev, Fr.of, Fr.get, Fr.set, stable, junkA, junkL, resultsA, resA, same, hcell, hS1, faddrA, l1, l2, n1, n2, e1, e2, Fr.get_set]
  · have e1 : binA .leq (.int .i64 (m.s.length : Int)) (.int .i64 20) = some (.bool false) := leq_f (by omega)
    have hd : decide (m.s.length ≤ 20 ∧ m.n.length ≤ 20 ∧ w.length ≤ 300) = false := by simp [h1]
    rw [hd]
    generalize (m.s.length : Int) = z1 at *
    generalize m.c b = M at *
    simp [xSmall, exM, l21_small, exM, orc, orcD, evF, evC, evOps, evOper, evAny, evOp, evCall, putR, putA, Fr.ev, Fr.of, Fr.get, Fr.set, stable, junkA, junkL, resultsA, resA, same, hcell, hS1, faddrA, l1, n1, e1, Fr.get_set]

def mA : Msg := ⟨1, [97], [115], 0, 16, List.replicate 32 0⟩
theorem mA_h : mA.h.length = 32 := by simp [mA]
theorem mA_may : mayL mA [] = true := by decide +kernel
theorem mA_len : (encL mA []).length = 44 := by
  have : (aheadL mA []).length = 40 := by decide +kernel
  simp [encL, this, sha_len]
theorem zM_may : mayL zM [] = false := by decide +kernel
theorem zM_ok : zM.Ok := ⟨zM_h, by simp [zM], by simp [zM], by simp [zM], by simp [zM], by simp [zM]⟩

theorem fill_A : fillA (zM.c .nils) [(0, 1, .int .i64 1), (1, 1, .str [97]), (2, 1, .str [115]), (4, 1, .int .i64 16)] = some (mA.c .nils) := rfl

theorem encRd (m : Msg) (w : List UInt8) (S : St) : Rd S (encV m w) (if mayL m w = true then encL m w else []) := by
  unfold encV
  split
  · exact ⟨.inr (.inl ⟨_, _, _, rfl⟩), by simp [cellsOf, bcells_len]⟩
  · exact nilRd S

noncomputable def oAlive : Orc := orc [mEncode, xDecode, mMay]
noncomputable def xAlive : Model := exM oAlive l21_alive 10
noncomputable def mAlive : Model := tellM 1 xAlive

theorem alive_ok (S : St) : mAlive [] S = some (.bool true, S) := by
  have zl : (zM.c .nils).length = 38 := c_len zM_h _
  have al : (mA.c .nils).length = 38 := c_len mA_h _
  have hOkA := (may_ok' mA_h mA_may).1
  obtain ⟨S1, p1, k1, g1, -⟩ := new38 S al
  have ld1 := load38 g1 al
  have he := encode_ok (S := S1) hOkA (nilRd S1) (by simp)
  have r1 := encRd mA [] S1
  have hE : encE mA [] = 0 := by simp [encE, mA_may]
  rw [if_pos mA_may] at r1
  rw [hE] at he
  have hlen := r1.len
  rw [mA_len] at hlen
  obtain ⟨y, T2, p2, k2, n2⟩ := decode_ok r1 (by rw [mA_len]; omega)
  have hd := dec_enc mA_h mA_may
  have hdm : decM (encL mA []) = (mA, []) := by simp [decM, hd]
  rw [hd, hdm] at p2
  have al' : (mA.c y).length = 38 := c_len mA_h _
  obtain ⟨S3, p3, k3, g3, -⟩ := new38 T2 al'
  obtain ⟨y4, T4, p4, k4, n4⟩ := decode_ok (nilRd S3) (by simp)
  have hd4 : decF [] = (none, 14) := rfl
  have hdm4 : decM [] = (zM, []) := rfl
  rw [hd4, hdm4] at p4
  obtain ⟨S5, p5, k5, g5, -⟩ := new38 T4 (c_len zM_h y4)
  have A5 : MsgAt S5 T2.length mA y := ⟨k5.get (k4.get g3 (by simp)) (by simp), mA_h⟩
  obtain ⟨-, -, l2, -, l4, -⟩ := A5.ld
  have hmz := mMay_ok zM_ok (nilRd S5) (by simp)
  rw [zM_may] at hmz
  have e44 : binA .eql (.int .i64 ((44 : Nat) : Int)) (.int .i64 44) = some (.bool true) := rfl
  have e0 : binA .eql (.int .i64 0) (.int .i64 0) = some (.bool true) := rfl
  have e16 : binA .eql (.int .i64 mA.hi) (.int .i64 16) = some (.bool true) := rfl
  have e14 : binA .eql (.int .i64 14) (.int .i64 14) = some (.bool true) := rfl
  have es : binA .eql (.str mA.n) (.str [115]) = some (.bool true) := rfl
  have kAll : Keeps S S5 [] := (((k1.after0 k2).after0 k3).after0 k4).after0 k5
  obtain ⟨X, rfl⟩ := kAll.split
  refine tellM_new (T := X) (v := .bool true) ?_ rfl
  generalize encV mA [] = E at *
  generalize ((44 : Nat) : Int) = z44 at *
  have hfa := fill_A
  generalize mA.c .nils = MA at *
  generalize mA.c y = MY at *
  generalize zM.c y4 = MZ at *
  generalize mA.hi = hi at *
  generalize mA.n = nn at *
  simp [xAlive, exM, l21_alive, exM, orc, orcD, evF, evC, evOps, evOper, evAny, evOp, evCall, putR, putA, Fr.ev, Fr.of, Fr.get, Fr.set, stable, junkA, junkL, resultsA, resA, same, oAlive, zlit, hfa, fill_0, p1, ld1, he, p2, p3, p4, p5, faddrA, l2, l4, hlen, e44, e0, e16, e14, es, hmz, unA, Fr.get_set]
end Am.Bis
end

/- The three laws of messages, over the machine. -/
section
namespace Am.Bis
open Am Go Am.Ir Am.Sha
set_option maxRecDepth 100000

/-- A message that is asked about. -/
structure Msg.Arg (m : Msg) : Prop where
  h : m.h.length = 32
  k : -9223372036854775808 ≤ m.k ∧ m.k ≤ 9223372036854775807
  lo : -9223372036854775808 ≤ m.lo ∧ m.lo ≤ 9223372036854775807
  hi : -9223372036854775808 ≤ m.hi ∧ m.hi ≤ 9223372036854775807

noncomputable def xLawE : Model := exM (orc [xSmall, mAlive, mEncode, xPlain, mEncode2, mMay, mMay2]) l21_BisectEncode 10

theorem enc_bytes (m : Msg) (w : List UInt8) (S : St) : ∃ s, bytesA (encV m w) S = some s := ⟨_, Bis.Rd.bytes (encRd m w S)⟩

theorem lawE {m : Msg} {b : AVal} {w : List UInt8} (ha : m.Arg) (hb : ∀ S, Rd S b w) : ∃ T, xLawE [.agg (m.c b)] [] = some (.bool true, T) := by
  have hcell : cells? (.agg (m.c b)) = some (m.c b) := rfl
  obtain ⟨S1, hS1⟩ : ∃ S1 : St, [ABlock.live 0 (m.c b)] = S1 := ⟨_, rfl⟩
  have A1 : MsgAt S1 0 m b := ⟨by rw [← hS1]; rfl, ha.h⟩
  have ld1 := load38 A1.at' (c_len ha.h b)
  have hsm := small_ok (S := S1) ha.h (hb S1)
  obtain ⟨S2, hS2⟩ : ∃ S2 : St, S1 ++ [.live 0 (m.c b)] = S2 := ⟨_, rfl⟩
  rw [hS2] at hsm
  have k2 : Keeps S1 S2 [] := by rw [← hS2]; exact Keeps.append ..
  have hal := alive_ok S2
  by_cases hs : m.s.length ≤ 20 ∧ m.n.length ≤ 20 ∧ w.length ≤ 300
  rotate_left
  · have hd : decide (m.s.length ≤ 20 ∧ m.n.length ≤ 20 ∧ w.length ≤ 300) = false := by simpa using hs
    rw [hd] at hsm
    refine ⟨S2, ?_⟩
    generalize m.c b = M at *
    simp [xLawE, exM, l21_BisectEncode, exM, orc, orcD, evF, evC, evOps, evOper, evAny, evOp, evCall, putR, putA, Fr.ev, Fr.of, Fr.get, Fr.set, stable, junkA, junkL, resultsA, resA, same, hcell, hS1, ld1, hsm, unA, hal, Fr.get_set]
  have hd : decide (m.s.length ≤ 20 ∧ m.n.length ≤ 20 ∧ w.length ≤ 300) = true := by simpa using hs
  rw [hd] at hsm
  have hOk : m.Ok := ⟨ha.h, by omega, by omega, ha.k, ha.lo, ha.hi⟩
  have hcb : cells? b = some [b] := Rd.cell (hb [])
  have A2 := A1.keep k2
  have ld2 := load38 A2.at' (c_len ha.h b)
  have he := encode_ok (S := S2) hOk (hb S2) (by omega)
  obtain ⟨S3, p3, k3⟩ := plain_ok (S := S2) ha.h hcb
  have ld3 := load38 (A2.keep k3).at' (c_len ha.h b)
  have he2 := encode2_ok (S := S3) hOk (hb S3) (by omega)
  have hal3 := alive_ok S3
  obtain ⟨s, hby⟩ := enc_bytes m w S3
  have hm1 := mMay_ok (S := S3) hOk (hb S3) (by omega)
  obtain ⟨S4, p4, k4⟩ := plain_ok (S := S3) ha.h hcb
  have hm2 := mMay2_ok (S := S4) hOk (hb S4) (by omega)
  have es : binA .eql (.str s) (.str s) = some (.bool true) := by simp [binA, strBin]
  have ee : binA .eql (.int .i64 (encE m w)) (.int .i64 (encE m w)) = some (.bool true) := eql_t rfl
  have eb : eq2 .bool (.bool (mayL m w)) (.bool (mayL m w)) = some true := by simp [eq2]
  refine ⟨S4, ?_⟩
  generalize encV m w = E at *
  generalize encE m w = e at *
  generalize mayL m w = D at *
  generalize m.c b = M at *
  simp [xLawE, exM, l21_BisectEncode, exM, orc, orcD, evF, evC, evOps, evOper, evAny, evOp, evCall, putR, putA, Fr.ev, Fr.of, Fr.get, Fr.set, stable, junkA, junkL, resultsA, resA, same, hcell, hS1, ld1, hsm, unA, ld2, he, p3, he2, hal3, hby, es, ee, ld3, hm1, p4, hm2, eb, trL, sameRead, sameVal, beqV_refl, Fr.get_set]

noncomputable def oLawD : Orc := orc [mAlive, xDecode, xDecode2, xPlain, xSame]
noncomputable def xLawD : Model := exM oLawD l21_BisectDecode 10000

/-- Bytes are overwritten, in a block that nobody else sees. -/
theorem over_loop {f : Fr} {T : St} {y x own : AVal} {q B : Nat} {w : List UInt8} {g : Bool} {m : Msg} (hq : T[q]? = some (.live 0 (m.c y))) (hh : m.h.length = 32) (hy : y = .nils ∧ w = [] ∨ ∃ r, B ≤ r ∧ MsgI T y w r ∧ r ≠ q) (hqB : B ≤ q) (hw : w.length ≤ 1000)
    (h0 : f.get 0 = x) (h3 : f.get 3 = own) (h4 : f.get 4 = .ptr q 0 0) (h8 : f.get 8 = .bool g) (h9 : f.get 9 = .int .i64 0) :
    Post (evC oLawD 10000 l21_BisectDecode_s1 f T) fun e f' T' => e = .normal ∧ f'.get 0 = x ∧ f'.get 3 = own ∧ f'.get 8 = .bool g ∧ T.length ≤ T'.length ∧ ∀ r, r < B → T'[r]? = T[r]? := by
  have A : MsgAt T q m y := ⟨hq, hh⟩
  obtain ⟨f', T', g1, g2⟩ := loop_post (O := oLawD) (k := 10000) (id := 0) (b := l21_BisectDecode_l0)
    (I := fun i f T' => f.get 0 = x ∧ f.get 3 = own ∧ f.get 4 = .ptr q 0 0 ∧ f.get 8 = .bool g ∧ f.get 9 = .int .i64 (i : Int) ∧ MsgAt T' q m y ∧ T.length ≤ T'.length ∧ (∀ r, r < B → T'[r]? = T[r]?) ∧
      (w = [] ∨ ∃ (r v : Nat) (cs : List AVal), B ≤ r ∧ r ≠ q ∧ y = .sl r v 0 w.length 1 ∧ T'[r]? = some (.live v cs) ∧ cs.length = w.length))
    (Q := fun f' T' => f'.get 0 = x ∧ f'.get 3 = own ∧ f'.get 8 = .bool g ∧ T.length ≤ T'.length ∧ ∀ r, r < B → T'[r]? = T[r]?) w.length (by omega)
    (by
      rintro i hi f T1 ⟨g0, g3, g4, g8, g9, gA, gl, gk, gy⟩
      rcases gy with rfl | ⟨r, v, cs, hr, hrq, rfl, hT, hcs⟩
      · simp at hi
      obtain ⟨-, -, -, -, -, -, l37, -⟩ := gA.ld
      have hlen : lenA .sl (.sl r v 0 w.length 1) = some (.int .i64 (w.length : Int)) := rfl
      have hlss : binA .lss (.int .i64 (i : Int)) (.int .i64 (w.length : Int)) = some (.bool true) := lss_t (by omega)
      have hnx : binA .add (.int .i64 (i : Int)) (.int .i64 1) = some (.int .i64 ((i + 1 : Nat) : Int)) := add_is (by omega) (by omega) (by omega)
      have hia : iaddrSA 1 (.sl r v 0 w.length 1) (.int .i64 (i : Int)) = some (.ptr r v i) := by rw [iaS (by omega) (by omega)]; simp
      have hst : storeA 1 (.ptr r v i) (.int .u8 17) T1 = some (T1.set r (.live v (splice cs i [.int .u8 17]))) := by
        simp only [storeA, cells?, hT]
        rw [if_pos ⟨trivial, rfl, by omega⟩]
      obtain ⟨T2, hT2⟩ : ∃ T2 : St, T1.set r (.live v (splice cs i [.int .u8 17])) = T2 := ⟨_, rfl⟩
      rw [hT2] at hst
      have kT2 : Keeps T1 T2 [r] := by rw [← hT2]; exact Keeps.set ..
      have hlt := live_lt hT
      suffices hmid : Post (evC oLawD 10000 l21_BisectDecode_l0 f T1) (fun e f' T' => e = .normal ∧ T' = T2 ∧ f'.get 0 = x ∧ f'.get 3 = own ∧ f'.get 4 = .ptr q 0 0 ∧ f'.get 8 = .bool g ∧ f'.get 9 = .int .i64 ((i + 1 : Nat) : Int)) by
        refine hmid.mono ?_
        rintro e f' T' ⟨rfl, rfl, c1, c2, c3, c4, c5⟩
        refine ⟨rfl, c1, c2, c3, c4, c5, ⟨kT2.get gA.at' (by simp; omega), hh⟩, Nat.le_trans gl kT2.1, ?_, .inr ⟨r, v, splice cs i [.int .u8 17], hr, hrq, rfl, by rw [← hT2]; simp [hlt], ?_⟩⟩
        · intro r' hr'
          by_cases hr'l : r' < T1.length
          · rw [kT2.2 r' hr'l (by simp; omega), gk r' hr']
          · have := kT2.1
            have h1 : T'.length = T1.length := by rw [← hT2]; simp
            rw [List.getElem?_eq_none (by omega), ← gk r' hr', List.getElem?_eq_none (by omega)]
        · simp [splice]; omega
      generalize ((i + 1 : Nat) : Int) = zi1 at *
      generalize (i : Int) = zi at *
      generalize (w.length : Int) = zw at *
      generalize (AVal.sl r v 0 w.length 1) = Y at *
      simp [l21_BisectDecode_l0, exM, orc, orcD, evF, evC, evOps, evOper, evAny, evOp, evCall, putR, putA, Fr.ev, Fr.of, Fr.get, Fr.set, stable, junkA, junkL, resultsA, resA, same, oLawD, Fr.get_set, g0, g3, g4, g8, g9, faddrA, l37, hlen, hlss, hia, hst, hnx, Post_some])
    (by
      rintro f T1 ⟨g0, g3, g4, g8, g9, gA, gl, gk, gy⟩
      obtain ⟨-, -, -, -, -, -, l37, -⟩ := gA.ld
      have hlen : lenA .sl y = some (.int .i64 (w.length : Int)) := by
        rcases hy with ⟨rfl, rfl⟩ | ⟨r, _, ⟨v, rfl, _⟩, _⟩ <;> rfl
      have hlss : binA .lss (.int .i64 (w.length : Int)) (.int .i64 (w.length : Int)) = some (.bool false) := lss_f (by omega)
      suffices hmid : Post (evC oLawD 10000 l21_BisectDecode_l0 f T1) (fun e f' T' => e = .exit 0 ∧ T' = T1 ∧ f'.get 0 = x ∧ f'.get 3 = own ∧ f'.get 8 = .bool g) by
        refine hmid.mono ?_
        rintro e f' T' ⟨rfl, rfl, c1, c2, c3⟩
        exact ⟨rfl, c1, c2, c3, gl, gk⟩
      generalize (w.length : Int) = zw at *
      simp [l21_BisectDecode_l0, exM, orc, orcD, evF, evC, evOps, evOper, evAny, evOp, evCall, putR, putA, Fr.ev, Fr.of, Fr.get, Fr.set, stable, junkA, junkL, resultsA, resA, same, oLawD, Fr.get_set, g0, g3, g4, g8, g9, faddrA, l37, hlen, hlss, Post_some])
    (f := f) (S := T) ⟨h0, h3, h4, h8, h9, A, Nat.le_refl _, fun _ _ => rfl, by
      rcases hy with ⟨_, rfl⟩ | ⟨r, hr, ⟨v, rfl, hv⟩, hrq⟩
      · exact .inl rfl
      · exact .inr ⟨r, v, _, hr, hrq, rfl, hv, bcells_len _⟩⟩
  rw [show l21_BisectDecode_s1 = .block 0 (.loop l21_BisectDecode_l0) from rfl, g1]
  exact Post.of rfl ⟨rfl, g2⟩

theorem Rd.down {S T : St} {x : AVal} {u : List UInt8} (h : Rd S x u) (hk : S.length ≤ T.length) (he : ∀ r, r < S.length → T[r]? = S[r]?) : Rd T x u :=
  h.keep ⟨hk, fun r hr _ => he r hr⟩

theorem lawD {x : AVal} {u : List UInt8} (hx : ∀ S, Rd S x u) (hlu : u.length ≤ 9223372036854775807) : ∃ T, xLawD [x] [] = some (.bool true, T) := by
  have hlen := (hx []).len
  by_cases h7 : 700 < u.length
  · have e1 : binA .gtr (.int .i64 (u.length : Int)) (.int .i64 700) = some (.bool true) := gtr_t (by omega)
    have hal := alive_ok []
    refine ⟨[], ?_⟩
    unfold xLawD exM
    refine evF_post rfl rfl ?_
    simp only [l21_BisectDecode, Post_seq]
    generalize (u.length : Int) = zu at *
    simp [exM, orc, orcD, evF, evC, evOps, evOper, evAny, evOp, evCall, putR, putA, Fr.ev, Fr.of, Fr.get, Fr.set, stable, junkA, junkL, resultsA, resA, same, oLawD, hlen, e1, hal, resultsA, Fr.get_set, Post_some]
  have e1 : binA .gtr (.int .i64 (u.length : Int)) (.int .i64 700) = some (.bool false) := gtr_f (by omega)
  -- a copy
  have h1 : MsgI [ABlock.live 0 []] (.sl 0 0 0 0 1) [] 0 := ⟨0, rfl, rfl⟩
  obtain ⟨own, S1, p1, m1, k1⟩ := h1.app (hx _).cells (by simp; omega)
  rw [List.nil_append] at m1
  -- read
  obtain ⟨y, S2, p2, k2, n2⟩ := decode_ok m1.rd (by omega)
  have hh := decM_h u
  obtain ⟨m, hm⟩ : ∃ m, (decM u).1 = m := ⟨_, rfl⟩
  obtain ⟨w, hw⟩ : ∃ w, (decM u).2 = w := ⟨_, rfl⟩
  obtain ⟨e, he⟩ : ∃ e, (decF u).2 = e := ⟨_, rfl⟩
  rw [hm, he] at p2
  rw [hw] at n2
  rw [hm] at hh
  have hwl : w.length ≤ 1000 := by
    rw [← hw]
    unfold decM
    cases hc : (decF u).1 with
    | none => simp
    | some p =>
      obtain ⟨a, b, -⟩ := dec_h hc
      have := (may_ok' a b).2.1
      simp only [Option.getD_some]; omega
  have cl := c_len hh
  obtain ⟨S3, p3, k3, g3, l3⟩ := new38 S2 (cl y)
  obtain ⟨y4, S4, p4, k4, n4⟩ := decode2_ok (hx S3) (by omega)
  rw [hm, he] at p4
  rw [hw] at n4
  obtain ⟨S5, p5, k5, g5, l5⟩ := new38 S4 (cl y4)
  have g35 : S5[S2.length]? = some (.live 0 (m.c y)) := k5.get (k4.get g3 (by simp)) (by simp)
  have ld5 := load38 g35 (cl y)
  have ld5' := load38 g5 (cl y4)
  have n25 : NewB S1 S5 y w := ((n2.keep k3).keep k4).keep k5
  have n45 : Rd S5 y4 w := n4.keep k5
  obtain ⟨S6, p6, k6⟩ := plain_ok (S := S5) hh (Rd.cell n25.rd)
  have ld6' := load38 (k6.get g5 (by simp)) (cl y4)
  obtain ⟨S7, p7, k7⟩ := same_ok (S := S6) hh (n25.rd.keep k6) (n45.keep k6)
  have ee : binA .eql (.int .i64 e) (.int .i64 e) = some (.bool true) := eql_t rfl
  have g37 : S7[S2.length]? = some (.live 0 (m.c y)) := k7.get (k6.get g35 (by simp)) (by simp)
  have n27 : NewB S1 S7 y w := (n25.keep k6).keep k7
  have hS12 : S1.length ≤ S2.length := k2.1
  have k17 : Keeps S1 S7 [] := (((((k2.after0 k3).after0 k4).after0 k5).after0 k6).after0 k7)
  have hY : y = .nils ∧ w = [] ∨ ∃ r, S1.length ≤ r ∧ MsgI S7 y w r ∧ r ≠ S2.length := by
    rcases n2 with h | ⟨r, h1, h2⟩
    · exact .inl h
    · have hrl := h2.lt
      exact .inr ⟨r, h1, h2.keep ((((k3.after0 k4).after0 k5).after0 k6).after0 k7) (by simp), by omega⟩
  suffices hs : Post (evC oLawD 10000 l21_BisectDecode.body (Fr.of [x]) []) (fun e f T => (e = .normal ∨ e = .ret) ∧ resultsA f T l21_BisectDecode.results = some (.bool true)) by
    obtain ⟨e, f, T, a1, a2, a3⟩ := hs.ex
    exact ⟨T, evF_post rfl rfl (Post.of a1 ⟨a2, a3, rfl⟩)⟩
  simp only [l21_BisectDecode, Post_seq]
  generalize (u.length : Int) = zu at *
  generalize hMY : m.c y = MY at *
  generalize hMY4 : m.c y4 = MY4 at *
  simp [exM, orc, orcD, evF, evC, evOps, evOper, evAny, evOp, evCall, putR, putA, Fr.ev, Fr.of, Fr.get, Fr.set, stable, junkA, junkL, resultsA, resA, same, oLawD, hlen, e1, fillA, p1, p2, zlit, p3, p4, p5, ld5, ld5', p6, ld6', p7, ee, trL, sameRead, sameVal, beqV_refl, Fr.get_set, Post_some]
  simp only [l21_BisectDecode_t2, Post_seq]
  simp [exM, orc, orcD, evF, evC, evOps, evOper, evAny, evOp, evCall, putR, putA, Fr.ev, Fr.of, Fr.get, Fr.set, stable, junkA, junkL, resultsA, resA, same, Fr.get_set, Post_some]
  refine Post.mono (over_loop (x := x) (own := own) (q := S2.length) (B := S1.length) (g := true) (m := m) (y := y) (by rw [hMY]; exact g37) hh hY hS12 hwl (by rfl) (by rfl) (by rfl) (by rfl) (by rfl)) ?_
  rintro e' f' T' ⟨rfl, c0, c3, c8, cl', ck⟩
  have hal := alive_ok T'
  have kT : Rd T' own u := by
    refine Bis.Rd.down m1.rd (Nat.le_trans k17.1 cl') fun r hr => ?_
    rw [ck r hr, k17.2 r hr (by simp)]
  have b1 := Bis.Rd.bytes kT
  have b2 := Bis.Rd.bytes (hx T')
  have es : binA .eql (.str u) (.str u) = some (.bool true) := by simp [binA, strBin]
  simp [exM, orc, orcD, evF, evC, evOps, evOper, evAny, evOp, evCall, putR, putA, Fr.ev, Fr.of, Fr.get, Fr.set, stable, junkA, junkL, resultsA, resA, same, oLawD, Fr.get_set, c0, c3, c8, hal, b1, b2, es, resultsA, Post_some]

noncomputable def xLawB : Model := exM (orc [xSmall, mAlive, mEncode, xDecode, mMay, xPlain, xSame]) l21_BisectBack 10

set_option maxHeartbeats 2000000 in
theorem lawB {m : Msg} {b x : AVal} {w u : List UInt8} (ha : m.Arg) (hb : ∀ S, Rd S b w) (hx : ∀ S, Rd S x u) (hlu : u.length ≤ 9223372036854775807) : ∃ T, xLawB [.agg (m.c b), x] [] = some (.bool true, T) := by
  have hcell : cells? (.agg (m.c b)) = some (m.c b) := rfl
  obtain ⟨S1, hS1⟩ : ∃ S1 : St, [ABlock.live 0 (m.c b)] = S1 := ⟨_, rfl⟩
  have A1 : MsgAt S1 0 m b := ⟨by rw [← hS1]; rfl, ha.h⟩
  have cl := c_len ha.h
  have ld1 := load38 A1.at' (cl b)
  have hsm := small_ok (S := S1) ha.h (hb S1)
  obtain ⟨S2, hS2⟩ : ∃ S2 : St, S1 ++ [.live 0 (m.c b)] = S2 := ⟨_, rfl⟩
  rw [hS2] at hsm
  have k2 : Keeps S1 S2 [] := by rw [← hS2]; exact Keeps.append ..
  have hal := alive_ok S2
  have hlen := (hx S2).len
  by_cases hs : m.s.length ≤ 20 ∧ m.n.length ≤ 20 ∧ w.length ≤ 300
  rotate_left
  · have hd : decide (m.s.length ≤ 20 ∧ m.n.length ≤ 20 ∧ w.length ≤ 300) = false := by simpa using hs
    rw [hd] at hsm
    refine ⟨S2, ?_⟩
    generalize m.c b = M at *
    simp [xLawB, exM, l21_BisectBack, exM, orc, orcD, evF, evC, evOps, evOper, evAny, evOp, evCall, putR, putA, Fr.ev, Fr.of, Fr.get, Fr.set, stable, junkA, junkL, resultsA, resA, same, hcell, hS1, ld1, hsm, unA, hal, Fr.get_set]
  have hd : decide (m.s.length ≤ 20 ∧ m.n.length ≤ 20 ∧ w.length ≤ 300) = true := by simpa using hs
  rw [hd] at hsm
  by_cases h6 : 600 < u.length
  · have e6 : binA .gtr (.int .i64 (u.length : Int)) (.int .i64 600) = some (.bool true) := gtr_t (by omega)
    refine ⟨S2, ?_⟩
    generalize m.c b = M at *
    generalize (u.length : Int) = zu at *
    simp [xLawB, exM, l21_BisectBack, exM, orc, orcD, evF, evC, evOps, evOper, evAny, evOp, evCall, putR, putA, Fr.ev, Fr.of, Fr.get, Fr.set, stable, junkA, junkL, resultsA, resA, same, hcell, hS1, ld1, hsm, hlen, e6, unA, hal, Fr.get_set]
  have e6 : binA .gtr (.int .i64 (u.length : Int)) (.int .i64 600) = some (.bool false) := gtr_f (by omega)
  have hOk : m.Ok := ⟨ha.h, by omega, by omega, ha.k, ha.lo, ha.hi⟩
  have hcb : cells? b = some [b] := Rd.cell (hb [])
  have A2 := A1.keep k2
  have ld2 := load38 A2.at' (cl b)
  have he := encode_ok (S := S2) hOk (hb S2) (by omega)
  have rE := encRd m w S2
  obtain ⟨y3, S3, p3, k3, n3⟩ := decode_ok rE (by
    split
    · rename_i hm
      have := ahead_len ha.h hm
      have : (encL m w).length = (aheadL m w).length + 4 := by simp [encL, sha_len]
      omega
    · simp)
  -- the second part
  have hhu := decM_h u
  obtain ⟨mu, hmu⟩ : ∃ mu, (decM u).1 = mu := ⟨_, rfl⟩
  obtain ⟨wu, hwu⟩ : ∃ wu, (decM u).2 = wu := ⟨_, rfl⟩
  rw [hmu] at hhu
  by_cases hy : mayL m w = true
  · rw [if_pos hy, dec_enc ha.h hy, show decM (encL m w) = (m, w) by simp [decM, dec_enc ha.h hy]] at p3
    rw [if_pos hy, show decM (encL m w) = (m, w) by simp [decM, dec_enc ha.h hy]] at n3
    rw [show encE m w = 0 by simp [encE, hy]] at he
    have p3 : xDecode [encV m w] S2 = some (.tup [.agg (m.c y3), .int .i64 0], S3) := p3
    have n3 : NewB S2 S3 y3 w := n3
    obtain ⟨S4, p4, k4, g4, l4⟩ := new38 S3 (cl y3)
    have A4 := (A2.keep k3).keep k4
    have ld4 := load38 A4.at' (cl b)
    have ld4' := load38 g4 (cl y3)
    have hmay := mMay_ok (S := S4) hOk (hb S4) (by omega)
    rw [hy] at hmay
    obtain ⟨S5, p5, k5⟩ := plain_ok (S := S4) ha.h hcb
    have n34 := n3.keep k4
    have ld5' := load38 (k5.get g4 (by simp)) (cl y3)
    obtain ⟨S6, p6, k6⟩ := plain_ok (S := S5) ha.h (Rd.cell n3.rd)
    obtain ⟨S7, p7, k7⟩ := same_ok (S := S6) ha.h (hb S6) ((n34.keep k5).keep k6).rd
    obtain ⟨y8, S8, p8, k8, n8⟩ := decode_ok (hx S7) (by omega)
    rw [hmu] at p8
    rw [hwu] at n8
    obtain ⟨S9, p9, k9, g9, l9⟩ := new38 S8 (c_len hhu y8)
    have hal9 := alive_ok S9
    have b0 : binA .eql (.int .i64 0) (.int .i64 0) = some (.bool true) := rfl
    have b0' : binA .neq (.int .i64 0) (.int .i64 0) = some (.bool false) := rfl
    have et : eq2 .bool (.bool true) (.bool true) = some true := rfl
    by_cases hz : (decF u).2 = 0
    · cases hc : (decF u).1 with
      | none => exact absurd hz (dec_none hc)
      | some p =>
        obtain ⟨a1, a2, -⟩ := dec_h hc
        have hpm : p = (mu, wu) := by
          have : decM u = p := by simp [decM, hc]
          rw [← hmu, ← hwu, this]
        subst hpm
        have a2 : mayL mu wu = true := a2
        obtain ⟨hOu, hwul, -⟩ := may_ok' hhu a2
        have ld9 := load38 g9 (c_len hhu y8)
        have heu := encode_ok (S := S9) hOu (n8.rd.keep k9) (by omega)
        rw [show encE mu wu = 0 by simp [encE, a2]] at heu
        have hby := Bis.Rd.bytes (encRd mu wu S9)
        rw [if_pos a2, enc_dec hc] at hby
        have hbx := Bis.Rd.bytes (hx S9)
        have es : binA .eql (.str u) (.str u) = some (.bool true) := by simp [binA, strBin]
        rw [hz] at p8
        refine ⟨S9, ?_⟩
        generalize m.c b = M at *
        generalize m.c y3 = M3 at *
        generalize mu.c y8 = M8 at *
        generalize (u.length : Int) = zu at *
        simp [xLawB, exM, l21_BisectBack, exM, orc, orcD, evF, evC, evOps, evOper, evAny, evOp, evCall, putR, putA, Fr.ev, Fr.of, Fr.get, Fr.set, stable, junkA, junkL, resultsA, resA, same, hcell, hS1, ld1, hsm, hlen, e6, unA, ld2, he, p3, zlit, p4, ld4, ld4', hmay, b0, b0', et, p5, ld5', p6, p7, p8, p9, ld9, heu, hal9, hby, hbx, es, trL, sameRead, sameVal, beqV_refl, Fr.get_set]
    · have bz : binA .neq (.int .i64 (decF u).2) (.int .i64 0) = some (.bool true) := neq_t hz
      refine ⟨S9, ?_⟩
      generalize m.c b = M at *
      generalize m.c y3 = M3 at *
      generalize mu.c y8 = M8 at *
      generalize (decF u).2 = zd at *
      generalize (u.length : Int) = zu at *
      simp [xLawB, exM, l21_BisectBack, exM, orc, orcD, evF, evC, evOps, evOper, evAny, evOp, evCall, putR, putA, Fr.ev, Fr.of, Fr.get, Fr.set, stable, junkA, junkL, resultsA, resA, same, hcell, hS1, ld1, hsm, hlen, e6, unA, ld2, he, p3, zlit, p4, ld4, ld4', hmay, b0, b0', et, p5, ld5', p6, p7, p8, p9, bz, hal9, trL, sameRead, sameVal, beqV_refl, Fr.get_set]
  · have hy' : mayL m w = false := by simpa using hy
    rw [if_neg hy] at p3 n3
    rw [show encE m w = 1 by simp [encE, hy']] at he
    have p3 : xDecode [encV m w] S2 = some (.tup [.agg (zM.c y3), .int .i64 14], S3) := p3
    obtain ⟨S4, p4, k4, g4, l4⟩ := new38 S3 (c_len zM_h y3)
    have A4 := (A2.keep k3).keep k4
    have ld4 := load38 A4.at' (cl b)
    have hmay := mMay_ok (S := S4) hOk (hb S4) (by omega)
    rw [hy'] at hmay
    obtain ⟨y8, S8, p8, k8, n8⟩ := decode_ok (hx S4) (by omega)
    rw [hmu] at p8
    rw [hwu] at n8
    obtain ⟨S9, p9, k9, g9, l9⟩ := new38 S8 (c_len hhu y8)
    have hal9 := alive_ok S9
    have b0 : binA .eql (.int .i64 1) (.int .i64 0) = some (.bool false) := rfl
    have b1 : binA .eql (.int .i64 0) (.int .i64 0) = some (.bool true) := rfl
    have b0' : binA .neq (.int .i64 0) (.int .i64 0) = some (.bool false) := rfl
    have et : eq2 .bool (.bool false) (.bool false) = some true := rfl
    by_cases hz : (decF u).2 = 0
    · cases hc : (decF u).1 with
      | none => exact absurd hz (dec_none hc)
      | some p =>
        obtain ⟨a1, a2, -⟩ := dec_h hc
        have hpm : p = (mu, wu) := by
          have : decM u = p := by simp [decM, hc]
          rw [← hmu, ← hwu, this]
        subst hpm
        have a2 : mayL mu wu = true := a2
        obtain ⟨hOu, hwul, -⟩ := may_ok' hhu a2
        have ld9 := load38 g9 (c_len hhu y8)
        have heu := encode_ok (S := S9) hOu (n8.rd.keep k9) (by omega)
        rw [show encE mu wu = 0 by simp [encE, a2]] at heu
        have hby := Bis.Rd.bytes (encRd mu wu S9)
        rw [if_pos a2, enc_dec hc] at hby
        have hbx := Bis.Rd.bytes (hx S9)
        have es : binA .eql (.str u) (.str u) = some (.bool true) := by simp [binA, strBin]
        rw [hz] at p8
        refine ⟨S9, ?_⟩
        generalize m.c b = M at *
        generalize zM.c y3 = M3 at *
        generalize mu.c y8 = M8 at *
        generalize (u.length : Int) = zu at *
        simp [xLawB, exM, l21_BisectBack, exM, orc, orcD, evF, evC, evOps, evOper, evAny, evOp, evCall, putR, putA, Fr.ev, Fr.of, Fr.get, Fr.set, stable, junkA, junkL, resultsA, resA, same, hcell, hS1, ld1, hsm, hlen, e6, unA, ld2, he, p3, zlit, p4, ld4, hmay, b0, b1, b0', et, p8, p9, ld9, heu, hal9, hby, hbx, es, trL, sameRead, sameVal, beqV_refl, Fr.get_set]
    · have bz : binA .neq (.int .i64 (decF u).2) (.int .i64 0) = some (.bool true) := neq_t hz
      refine ⟨S9, ?_⟩
      generalize m.c b = M at *
      generalize zM.c y3 = M3 at *
      generalize mu.c y8 = M8 at *
      generalize (decF u).2 = zd at *
      generalize (u.length : Int) = zu at *
      simp [xLawB, exM, l21_BisectBack, exM, orc, orcD, evF, evC, evOps, evOper, evAny, evOp, evCall, putR, putA, Fr.ev, Fr.of, Fr.get, Fr.set, stable, junkA, junkL, resultsA, resA, same, hcell, hS1, ld1, hsm, hlen, e6, unA, ld2, he, p3, zlit, p4, ld4, hmay, b0, et, p8, p9, bz, hal9, trL, sameRead, sameVal, beqV_refl, Fr.get_set]
end Am.Bis
end

