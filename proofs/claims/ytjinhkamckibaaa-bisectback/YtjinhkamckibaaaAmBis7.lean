import Derived.Test.YtjinhkamckibaaaAmBis1
import Derived.Test.YtjinhkamckibaaaProg
import Derived.WalkKit
import Derived.Laws.RangeString
import Derived.Laws.RangeAny
import Derived.Laws.Runes
import Derived.Laws.Strings
import Derived.Laws.Strings2
import Derived.Laws.Strings3
import Derived.LoopTactic
import Derived.Tactics2
import Derived.StillTactics
import Derived.Scope
set_option linter.all false
/- Numbers read: the program's Take, whole. -/
section
namespace Am.Bis
open Am Go Am.Ir Am.Sha
set_option maxRecDepth 100000

theorem takeF_end {j acc : Nat} {u : List UInt8} (hj : j = min u.length 10) (hT : takeF (10 - j) acc (u.drop j) = takeN u) : takeN u = (0, [], if 10 ≤ u.length then 3 else 2) := by
  rw [← hT]
  by_cases h : 10 ≤ u.length
  · have : j = 10 := by omega
    subst this
    simp [takeF, h]
  · have h1 : j = u.length := by omega
    rw [h1, List.drop_length]
    obtain ⟨k, hk⟩ : ∃ k, 10 - u.length = k + 1 := ⟨9 - u.length, by omega⟩
    rw [hk]
    simp [takeF, h]

theorem take_loop {S : St} {x x' : AVal} {u : List UInt8} {f : Fr} {N : Nat} (hN : N = min u.length 10) (hul : u.length ≤ 1000000000) (hx : Rd S x u) (hx' : Rd S x' (u.take N)) (hf : TkF f x x' N 0 0) :
    ∃ e f' T, iter (evC oTake 100 num_Take_l0) 100 f S = some (e, f', T) ∧ ((e = .ret ∧ TkR S u f' T) ∨ (e = .exit 0 ∧ T = S ∧ f'.get 0 = x ∧ takeN u = (0, [], if 10 ≤ u.length then 3 else 2))) := by
  obtain ⟨e, f', T, h1, _, h2⟩ := iter_post (step := evC oTake 100 num_Take_l0) (fuel := 100)
    (I := fun j f T => T = S ∧ ∃ acc, TkF f x x' N j acc ∧ acc < 128 ^ j ∧ takeF (10 - j) acc (u.drop j) = takeN u)
    (Q := fun e f' T => (e = .ret ∧ TkR S u f' T) ∨ (e = .exit 0 ∧ T = S ∧ f'.get 0 = x ∧ takeN u = (0, [], if 10 ≤ u.length then 3 else 2))) N
    (by
      rintro j hj f T ⟨rfl, acc, g1, g2, g3⟩
      refine (take_round hN hul hx hx' hj g2 g3 g1).mono ?_
      rintro e f' T' (⟨h1, h2, acc', h3⟩ | ⟨h1, h2, h3⟩)
      · exact .inl ⟨h1, h2, acc', h3⟩
      · exact .inr ⟨h1, .inl ⟨h2, h3⟩⟩)
    (by
      rintro f T ⟨rfl, acc, ⟨s0, s5, s12, s13, s14⟩, g2, g3⟩
      have hend := takeF_end hN g3
      have hlss : binA .lss (.int .i64 (N : Int)) (.int .i64 (N : Int)) = some (.bool false) := lss_f (by omega)
      suffices hmid : Post (evC oTake 100 num_Take_l0 f T) (fun e f' T' => e = .exit 0 ∧ T' = T ∧ f'.get 0 = x) by
        refine hmid.mono ?_
        rintro e f' T' ⟨rfl, k2, k3⟩
        exact ⟨by simp, .inr ⟨rfl, k2, k3, hend⟩⟩
      generalize (N : Int) = zN at *
      simp [num_Take_l0, exM, orc, orcD, evF, evC, evOps, evOper, evAny, evOp, evCall, putR, putA, Fr.ev, Fr.of, Fr.get, Fr.set, stable, junkA, junkL, resultsA, resA, same, Fr.get_set, s0, s13, s14, hlss, Post_some])
    (by omega) (f := f) (S := S) ⟨rfl, 0, hf, by simp, rfl⟩
  exact ⟨e, f', T, h1, h2⟩

theorem take_loopP {S : St} {x x' : AVal} {u : List UInt8} {f : Fr} {N : Nat} (hN : N = min u.length 10) (hul : u.length ≤ 1000000000) (hx : Rd S x u) (hx' : Rd S x' (u.take N)) (hf : TkF f x x' N 0 0) :
    Post (evC oTake 100 num_Take_s1 f S) fun e f' T => (e = .ret ∧ TkR S u f' T) ∨ (e = .normal ∧ T = S ∧ f'.get 0 = x ∧ takeN u = (0, [], if 10 ≤ u.length then 3 else 2)) := by
  obtain ⟨e, f', T, k1, k2⟩ := take_loop hN hul hx hx' hf
  rw [show num_Take_s1 = .block 0 (.loop num_Take_l0) from rfl]
  refine Post.block (Post.of (by simpa only [evC] using k1) ?_)
  rcases k2 with ⟨rfl, k3⟩ | ⟨rfl, rfl, k3, k4⟩
  · simp [k3]
  · simp [k3, k4]

theorem take_ok {S : St} {x : AVal} {u : List UInt8} (hx : Rd S x u) (hul : u.length ≤ 1000000000) :
    ∃ y T, xTake [x] S = some (.tup [.int .u64 ((takeN u).1 : Int), y, .int .i64 ((takeN u).2.2 : Int)], T) ∧ Keeps S T [] ∧ NewB S T y (takeN u).2.1 := by
  have hlen := hx.len
  obtain ⟨x', hsl, hx'⟩ := Bis.Rd.upto hx (n := min u.length 10) (by omega)
  have hlen' := hx'.len
  have hl2 : (u.take (min u.length 10)).length = min u.length 10 := by rw [List.length_take]; omega
  rw [hl2] at hlen'
  have hmn : min (u.length : Int) 10 = ((min u.length 10 : Nat) : Int) := by omega
  suffices hs : Post (evC oTake 100 num_Take.body (Fr.of [x]) S) (fun e f T => (e = .normal ∨ e = .ret) ∧ TkR S u f T) by
    obtain ⟨e, f, T, g1, g2, y, g3, g4, g5, g6, g7⟩ := hs.ex
    refine ⟨y, T, evF_post rfl rfl (Post.of g1 ⟨g2, ?_, rfl⟩), g6, g7⟩
    simp [exM, orc, orcD, evF, evC, evOps, evOper, evAny, evOp, evCall, putR, putA, Fr.ev, Fr.of, Fr.get, Fr.set, stable, junkA, junkL, resultsA, resA, same, num_Take, resultsA, g3, g4, g5]
  simp only [num_Take, num_Take_t2, Post_seq]
  obtain ⟨N, hN⟩ : ∃ N, min u.length 10 = N := ⟨_, rfl⟩
  rw [hN] at hsl hx' hlen' hl2 hmn
  generalize hul' : (u.length : Int) = ul at *
  generalize hNz : (N : Int) = zN at *
  simp [exM, orc, orcD, evF, evC, evOps, evOper, evAny, evOp, evCall, putR, putA, Fr.ev, Fr.of, Fr.get, Fr.set, stable, junkA, junkL, resultsA, resA, same, hlen, hmn, hsl, hlen', Fr.get_set, Post_some]
  refine (take_loopP (x' := x') (N := N) hN.symm hul hx hx' (by exact ⟨rfl, rfl, rfl, by rw [hNz]; rfl, rfl⟩)).mono ?_
  rintro e f' T (⟨rfl, k3⟩ | ⟨rfl, rfl, k3, k4⟩)
  · simp [k3]
  · by_cases h10 : 10 ≤ u.length
    · have hge : binA .geq (.int .i64 ul) (.int .i64 10) = some (.bool true) := geq_t (by omega)
      rw [if_pos h10] at k4
      simp only [if_pos]
      simp [exM, orc, orcD, evF, evC, evOps, evOper, evAny, evOp, evCall, putR, putA, Fr.ev, Fr.of, Fr.get, Fr.set, stable, junkA, junkL, resultsA, resA, same, Fr.get_set, k3, hlen, hge, Post_some, TkR, k4, Keeps.refl, NewB]
    · have hge : binA .geq (.int .i64 ul) (.int .i64 10) = some (.bool false) := geq_f (by omega)
      rw [if_neg h10] at k4
      simp only [if_pos]
      simp [exM, orc, orcD, evF, evC, evOps, evOper, evAny, evOp, evCall, putR, putA, Fr.ev, Fr.of, Fr.get, Fr.set, stable, junkA, junkL, resultsA, resA, same, Fr.get_set, k3, hlen, hge, Post_some, TkR, k4, Keeps.refl, NewB]
end Am.Bis
end

/- Strings read, by the program. -/
section
namespace Am.Bis
open Am Go Am.Ir Am.Sha
set_option maxRecDepth 100000

noncomputable def xTakeBytes : Model := exM (orc [xClone]) num_TakeBytes 10

theorem takeBytes_ok {S : St} {x : AVal} {u : List UInt8} (hx : Rd S x u) (hul : u.length ≤ 1000000000) (n : Nat) (hn : n ≤ u.length) :
    ∃ y z T, xTakeBytes [x, .int .i64 (n : Int)] S = some (.tup [y, z, .int .i64 0], T) ∧ Keeps S T [] ∧ NewB S T y (u.take n) ∧ NewB S T z (u.drop n) := by
  have hlen := hx.len
  obtain ⟨x1, a1, a2⟩ := Bis.Rd.upto hx hn
  obtain ⟨y, T1, b1, b2, b3⟩ := clone_ok a2 (by rw [List.length_take]; omega)
  obtain ⟨x2, c1, c2⟩ := (hx.keep b2).from hn
  obtain ⟨z, T2, d1, d2, d3⟩ := clone_ok c2 (by rw [List.length_drop]; omega)
  have e1 : binA .lss (.int .i64 (n : Int)) (.int .i64 0) = some (.bool false) := lss_f (by omega)
  have e2 : binA .gtr (.int .i64 (n : Int)) (.int .i64 (u.length : Int)) = some (.bool false) := gtr_f (by omega)
  have hz : NewB S T2 z (u.drop n) := by
    rcases d3 with h | ⟨r, h1, h2⟩
    · exact .inl h
    · exact .inr ⟨r, Nat.le_trans b2.1 h1, h2⟩
  refine ⟨y, z, T2, ?_, b2.after0 d2, b3.keep d2, hz⟩
  generalize (n : Int) = zn at *
  generalize (u.length : Int) = ul at *
  simp [xTakeBytes, exM, num_TakeBytes, exM, orc, orcD, evF, evC, evOps, evOper, evAny, evOp, evCall, putR, putA, Fr.ev, Fr.of, Fr.get, Fr.set, stable, junkA, junkL, resultsA, resA, same, hlen, e1, e2, a1, b1, c1, d1, Fr.get_set]

theorem takeBytes_short {S : St} {x : AVal} {u : List UInt8} (hx : Rd S x u) (n : Nat) (hn : u.length < n) :
    xTakeBytes [x, .int .i64 (n : Int)] S = some (.tup [.nils, .nils, .int .i64 2], S) := by
  have hlen := hx.len
  have e1 : binA .lss (.int .i64 (n : Int)) (.int .i64 0) = some (.bool false) := lss_f (by omega)
  have e2 : binA .gtr (.int .i64 (n : Int)) (.int .i64 (u.length : Int)) = some (.bool true) := gtr_t (by omega)
  generalize (n : Int) = zn at *
  generalize (u.length : Int) = ul at *
  simp [xTakeBytes, exM, num_TakeBytes, exM, orc, orcD, evF, evC, evOps, evOper, evAny, evOp, evCall, putR, putA, Fr.ev, Fr.of, Fr.get, Fr.set, stable, junkA, junkL, resultsA, resA, same, hlen, e1, e2, Fr.get_set]

/-- A string is read. -/
def takeStr (most : Nat) (u : List UInt8) : List UInt8 × List UInt8 × Nat :=
  if (takeN u).2.2 ≠ 0 then ([], [], (takeN u).2.2) else if most < (takeN u).1 then ([], [], 4)
  else if (takeN u).2.1.length < (takeN u).1 then ([], [], 2) else ((takeN u).2.1.take (takeN u).1, (takeN u).2.1.drop (takeN u).1, 0)

theorem takeF_le : ∀ (k acc : Nat) (u : List UInt8), (takeF k acc u).2.1.length ≤ u.length ∧ (takeF k acc u).2.2 ≤ 3
  | 0, _, _ => by simp [takeF]
  | _ + 1, _, [] => by simp [takeF]
  | k + 1, acc, c :: r => by
    simp only [takeF]
    split
    · have := takeF_le k (acc + (c.toNat - 128) * 128 ^ (9 - k) % 2 ^ 64) r
      simp only [List.length_cons]; omega
    · split <;> simp

noncomputable def xTakeString : Model := exM (orc [xTake, xTakeBytes]) num_TakeString 10

theorem takeString_ok {S : St} {x : AVal} {u : List UInt8} (hx : Rd S x u) (hul : u.length ≤ 1000000000) (most : Nat) (hm : most ≤ 1000000) :
    ∃ y z T, xTakeString [x, .int .i64 (most : Int)] S = some (.tup [y, z, .int .i64 ((takeStr most u).2.2 : Int)], T) ∧ Keeps S T [] ∧ NewB S T y (takeStr most u).1 ∧ NewB S T z (takeStr most u).2.1 := by
  obtain ⟨r, T, a1, a2, a3⟩ := take_ok hx hul
  have hle := takeF_le 10 0 u
  have hle' : (takeN u).2.1.length ≤ u.length := hle.1
  have e1 : binA .lss (.int .i64 (most : Int)) (.int .i64 0) = some (.bool false) := lss_f (by omega)
  have hcv : IntKind.u64.wrap (most : Int) = (most : Int) := conv_u64 (by omega) (by omega)
  obtain ⟨n, hn⟩ : ∃ n, (takeN u).1 = n := ⟨_, rfl⟩
  obtain ⟨w, hw⟩ : ∃ w, (takeN u).2.1 = w := ⟨_, rfl⟩
  obtain ⟨e, he⟩ : ∃ e, (takeN u).2.2 = e := ⟨_, rfl⟩
  rw [hn, he] at a1
  rw [hw] at a3 hle'
  unfold takeStr
  rw [hn, hw, he]
  by_cases h0 : e = 0
  · rw [if_neg (by simp [h0])]
    have b0 : binA .neq (.int .i64 (e : Int)) (.int .i64 0) = some (.bool false) := neq_f (by omega)
    by_cases hmn : most < n
    · rw [if_pos hmn]
      have b1 : binA .gtr (.int .u64 (n : Int)) (.int .u64 (most : Int)) = some (.bool true) := gtr_t (by omega)
      refine ⟨.nils, .nils, T, ?_, a2, .inl ⟨rfl, rfl⟩, .inl ⟨rfl, rfl⟩⟩
      show _ = some (AVal.tup [_, _, .int .i64 4], T)
      generalize (most : Int) = zm at *
      generalize (n : Int) = zn at *
      generalize (e : Int) = ze at *
      simp [xTakeString, exM, num_TakeString, exM, orc, orcD, evF, evC, evOps, evOper, evAny, evOp, evCall, putR, putA, Fr.ev, Fr.of, Fr.get, Fr.set, stable, junkA, junkL, resultsA, resA, same, a1, b0, b1, e1, hcv, Fr.get_set]
    · rw [if_neg hmn]
      have b1 : binA .gtr (.int .u64 (n : Int)) (.int .u64 (most : Int)) = some (.bool false) := gtr_f (by omega)
      have hcn : IntKind.i64.wrap (n : Int) = (n : Int) := conv_i64 (by omega) (by omega)
      by_cases hs : w.length < n
      · rw [if_pos hs]
        have d1 := takeBytes_short a3.rd n hs
        refine ⟨.nils, .nils, T, ?_, a2, .inl ⟨rfl, rfl⟩, .inl ⟨rfl, rfl⟩⟩
        show _ = some (AVal.tup [_, _, .int .i64 2], T)
        generalize (most : Int) = zm at *
        generalize (n : Int) = zn at *
        generalize (e : Int) = ze at *
        simp [xTakeString, exM, num_TakeString, exM, orc, orcD, evF, evC, evOps, evOper, evAny, evOp, evCall, putR, putA, Fr.ev, Fr.of, Fr.get, Fr.set, stable, junkA, junkL, resultsA, resA, same, a1, b0, b1, e1, hcv, hcn, d1, Fr.get_set]
      · rw [if_neg hs]
        obtain ⟨y, z, T2, d1, d2, d3, d4⟩ := takeBytes_ok a3.rd (by omega) n (by omega)
        have up : ∀ {v : AVal} {l : List UInt8}, NewB T T2 v l → NewB S T2 v l := by
          rintro v l (h | ⟨q, h1, h2⟩)
          · exact .inl h
          · exact .inr ⟨q, Nat.le_trans a2.1 h1, h2⟩
        refine ⟨y, z, T2, ?_, a2.after0 d2, up d3, up d4⟩
        show _ = some (AVal.tup [_, _, .int .i64 0], T2)
        generalize (most : Int) = zm at *
        generalize (n : Int) = zn at *
        generalize (e : Int) = ze at *
        simp [xTakeString, exM, num_TakeString, exM, orc, orcD, evF, evC, evOps, evOper, evAny, evOp, evCall, putR, putA, Fr.ev, Fr.of, Fr.get, Fr.set, stable, junkA, junkL, resultsA, resA, same, a1, b0, b1, e1, hcv, hcn, d1, Fr.get_set]
  · rw [if_pos h0]
    have b0 : binA .neq (.int .i64 (e : Int)) (.int .i64 0) = some (.bool true) := neq_t (by omega)
    refine ⟨.nils, .nils, T, ?_, a2, .inl ⟨rfl, rfl⟩, .inl ⟨rfl, rfl⟩⟩
    show _ = some (AVal.tup [_, _, .int .i64 (e : Int)], T)
    generalize (most : Int) = zm at *
    generalize (n : Int) = zn at *
    generalize (e : Int) = ze at *
    simp [xTakeString, exM, num_TakeString, exM, orc, orcD, evF, evC, evOps, evOper, evAny, evOp, evCall, putR, putA, Fr.ev, Fr.of, Fr.get, Fr.set, stable, junkA, junkL, resultsA, resA, same, a1, b0, Fr.get_set]
end Am.Bis
end

/- catalog.IsName, at the world: a range over a string. -/
section
namespace Go.Proofs.Bis
open Go.RowKit
set_option maxRecDepth 100000

def signN (c : Int) : Bool := (decide (97 ≤ c) && decide (c ≤ 122)) || (decide (48 ≤ c) && decide (c ≤ 57)) || decide (c = 45)

theorem isSign_calls (c : Int) (w : World) : Calls Try.prog 32 #[.int .i32 c] w fun e w' => e = .returned (.bool (signN c)) ∧ w' = w := by
  by_cases h1 : 97 ≤ c <;> by_cases h2 : c ≤ 122 <;> by_cases h3 : 48 ≤ c <;> by_cases h4 : c ≤ 57 <;> by_cases h5 : c = 45 <;> first
  | (exfalso; omega)
  | (go_enter Try.func32, Try.ntmps32
     go_wp2
     go_ret
     refine ⟨?_, rfl⟩
     refine congrArg (fun b => Ending.returned (Value.bool b)) ?_
     rw [Bool.eq_iff_iff]
     simp [signN]
     try omega)

def signU (b : UInt8) : Bool := signN (b.toNat : Int)
theorem signU_ascii {b : UInt8} (h : 128 ≤ b.toNat) : signU b = false := by
  simp [signU, signN]; omega

theorem signN_high {c : Int} (h : 128 ≤ c) : signN c = false := by simp [signN]; omega

theorem isEmpty_size (s : ByteArray) : s.toList.isEmpty = decide (s.size = 0) := by
  rw [ByteArray.toList_eq]
  have e : s.size = s.data.toList.length := by simp
  rw [e]
  cases s.data.toList <;> simp

theorem isName_calls (s : ByteArray) (w : World) : Calls Try.prog 20 #[.string s] w fun e w' => e = .returned (.bool (s.data.toList.all signU && decide (s.size ≠ 0) && decide (s.size ≤ 12))) ∧ ∃ pos, w' = w.iter s pos := by
  go_enter Try.func20, Try.ntmps20
  go_wp2
  go_loopw [2] (fun n w' => ∃ pos : Nat, w' = w.iter s pos ∧ n = .bool false ∧ ∀ (j : Nat) (h : j < s.size), j < pos → signU (s[j]'h) = true) (fun _ w' => s.size - w'.iterPos w.heap.size)
  case atStart => exact ⟨0, rfl, rfl, by intro j _ h; omega⟩
  case round =>
    obtain ⟨pos, rfl, rfl, hc⟩ := hrel
    by_cases hp : pos < s.size
    · have hnx : ∀ ty, (Instr.next (.pointer (some ⟨w.heap.size, 0, none⟩)) true ty).run Try.prog (w.iter s pos) = _ := fun ty => run_next_any w s pos ty hp
      cases hb : signN ((Utf8.decode s pos).1 : Int)
      · go_wp2_with (go_at_call 32; refine (isSign_calls _ _).mono ?_; rintro e w' ⟨rfl, rfl⟩; rw [hb])
        go_ret
        refine ⟨?_, _, rfl⟩
        have hf : s.data.toList.all signU = false := by
          rw [List.all_eq_false]
          refine ⟨s[pos]'hp, List.getElem_mem (by simpa using hp), ?_⟩
          by_cases ha : (s[pos]'hp).toNat < 128
          · rw [decode_ascii s pos hp ha] at hb
            simp [signU, hb]
          · rw [signU_ascii (by omega)]; simp
        rw [hf]; rfl
      · have ha : (s[pos]'hp).toNat < 128 := by
          apply Decidable.byContradiction
          intro hn
          rw [signN_high (by have := (decode_high s pos hp (by omega)).1; omega)] at hb
          cases hb
        rw [decode_ascii s pos hp ha] at hb hnx
        go_wp2_with (go_at_call 32; refine (isSign_calls _ _).mono ?_; rintro e w' ⟨rfl, rfl⟩; rw [hb])
        go_roundw
        case rel =>
          refine ⟨pos + 1, rfl, rfl, fun j h hj => ?_⟩
          by_cases e : j = pos
          · subst e; exact hb
          · exact hc j h (by omega)
        case measure => simp; omega
    · have hnx : ∀ ty, (Instr.next (.pointer (some ⟨w.heap.size, 0, none⟩)) true ty).run Try.prog (w.iter s pos) = _ := fun ty => run_next_end w s pos ty hp
      have hall : s.data.toList.all signU = true := by
        rw [List.all_eq_true]
        intro x hx
        obtain ⟨j, hj, rfl⟩ := List.getElem_of_mem hx
        exact hc j (by simpa using hj) (by have : j < s.size := by simpa using hj
                                           omega)
      by_cases he : s = ByteArray.empty
      · subst he
        go_wp2
        all_goals go_ret
        all_goals exact ⟨rfl, _, rfl⟩
      · have hz := isEmpty_size s
        have hs0 : s.size ≠ 0 := fun h => he (by simpa using h)
        have hl : ¬ s.toList = [] := by
          intro h
          rw [h] at hz
          simp [hs0] at hz
        go_wp2
        all_goals go_ret
        all_goals refine ⟨?_, _, rfl⟩
        all_goals refine congrArg (fun b => Ending.returned (Value.bool b)) ?_
        all_goals (rw [hall]; simp [hs0, hl]; try omega)
end Go.Proofs.Bis
end

