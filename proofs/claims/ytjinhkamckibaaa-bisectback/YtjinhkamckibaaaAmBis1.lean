import Derived.Test.YtjinhkamckibaaaAmSha25
import Derived.Test.YtjinhkamckibaaaAmAr
import Derived.Test.YtjinhkamckibaaaAmIrBisect
set_option linter.all false
/- Numbers written: bytes.Clone, grown, Put. -/
section
namespace Am.Bis
open Am Go Am.Ir Am.Sha
set_option maxRecDepth 100000

/-- Bytes of one's own, or none. -/
def NewB (S T : St) (y : AVal) (u : List UInt8) : Prop := (y = .nils ∧ u = []) ∨ ∃ r, S.length ≤ r ∧ MsgI T y u r

theorem NewB.rd {S T : St} {y : AVal} {u : List UInt8} (h : NewB S T y u) : Rd T y u := by
  rcases h with ⟨rfl, rfl⟩ | ⟨r, _, h⟩
  · exact ⟨.inr (.inr rfl), rfl⟩
  · exact h.rd
theorem NewB.keep {S T U : St} {y : AVal} {u : List UInt8} (h : NewB S T y u) (hk : Keeps T U []) : NewB S U y u := by
  rcases h with h | ⟨r, h1, h2⟩
  · exact .inl h
  · exact .inr ⟨r, h1, h2.keep hk (by simp)⟩

noncomputable def xClone : Model := exM (orc []) bytes_Clone 10

theorem clone_ok {S : St} {x : AVal} {u : List UInt8} (hx : Rd S x u) (hl : u.length ≤ 1000000000) : ∃ y T, xClone [x] S = some (y, T) ∧ Keeps S T [] ∧ NewB S T y u := by
  by_cases hn : x = .nils
  · subst hn
    have hc := hx.cells
    simp only [cellsOf, Option.some.injEq, Prod.mk.injEq] at hc
    have hu : u = [] := List.length_eq_zero_iff.1 hc.1.symm
    subst hu
    refine ⟨.nils, S, ?_, Keeps.refl .., .inl ⟨rfl, rfl⟩⟩
    simp [xClone, exM, bytes_Clone, exM, orc, orcD, evF, evC, evOps, evOper, evAny, evOp, evCall, putR, putA, Fr.ev, Fr.of, Fr.get, Fr.set, stable, junkA, junkL, resultsA, resA, same, eq2]
  · have he : eq2 .sl x .nils = some false := by
      rcases hx.sl with ⟨r, v, o, l, rfl⟩ | ⟨b, l, c, rfl⟩ | rfl
      · rfl
      · rfl
      · exact absurd rfl hn
    obtain ⟨S1, hS1⟩ : ∃ S1 : St, S ++ [.live 0 []] = S1 := ⟨_, rfl⟩
    have hk1 : Keeps S S1 [] := by rw [← hS1]; exact Keeps.append ..
    have h1 : MsgI S1 (.sl S.length 0 0 0 1) [] S.length := ⟨0, rfl, by rw [← hS1]; simp [bcells]⟩
    obtain ⟨m2, S2, a1, a2, a3⟩ := h1.app (hx.keep hk1).cells (by simp; omega)
    rw [List.nil_append] at a2
    refine ⟨m2, S2, ?_, hk1.after a3 (by omega), .inr ⟨S.length, Nat.le_refl _, a2⟩⟩
    simp [xClone, exM, bytes_Clone, exM, orc, orcD, evF, evC, evOps, evOper, evAny, evOp, evCall, putR, putA, Fr.ev, Fr.of, Fr.get, Fr.set, stable, junkA, junkL, resultsA, resA, same, he, hS1, a1, fillA, cells?, splice]

noncomputable def xGrown : Model := exM (orc []) num_grown 10

theorem flat_rep (n : Nat) : (List.replicate n [AVal.int .u8 0]).flatten = bcells (List.replicate n 0) := by
  simp [bcells]

theorem grown_ok {S : St} {x : AVal} {u : List UInt8} (hx : Rd S x u) (hl : u.length ≤ 1000000000) :
    ∃ y T, xGrown [x, .int .i64 10] S = some (y, T) ∧ Keeps S T [] ∧ MsgI T y u S.length := by
  have hlen := hx.len
  have had : binA .add (.int .i64 (u.length : Int)) (.int .i64 10) = some (.int .i64 ((u.length : Int) + 10)) := add_i (by omega) (by omega)
  obtain ⟨S1, hS1⟩ : ∃ S1 : St, S ++ [.live 0 (bcells (List.replicate u.length 0))] = S1 := ⟨_, rfl⟩
  have hk1 : Keeps S S1 [] := by rw [← hS1]; exact Keeps.append ..
  have hm : mkA 1 1 [.int .u8 0] (.int .i64 (u.length : Int)) (.int .i64 ((u.length : Int) + 10)) S = some (.sl S.length 0 0 u.length 1, S1) := by
    simp only [mkA]
    rw [if_pos ⟨by omega, by omega, by omega, by omega, rfl⟩, ← hS1, Int.toNat_natCast, flat_rep]
  have hg : S1[S.length]? = some (.live 0 (bcells (List.replicate u.length 0))) := by rw [← hS1]; simp
  have hsp : splice (bcells (List.replicate u.length 0)) 0 ((bcells u).take (min u.length u.length * 1)) = bcells u := by
    rw [Nat.min_self, Nat.mul_one, List.take_of_length_le (by rw [bcells_len]; omega)]
    simp [splice, bcells_len]
  have hc : copyA 1 (.sl S.length 0 0 u.length 1) x S1 = some (.int .i64 (u.length : Int), S1.set S.length (.live 0 (bcells u))) := by
    simp only [copyA, (hx.keep hk1).cells, hg]
    rw [if_pos ⟨trivial, trivial, by rw [bcells_len]; simp⟩, hsp, Nat.min_self]
  have hlt := live_lt hg
  refine ⟨.sl S.length 0 0 u.length 1, S1.set S.length (.live 0 (bcells u)), ?_, hk1.after (Keeps.set ..) (Nat.le_refl _), ⟨0, rfl, by simp [hlt]⟩⟩
  generalize (u.length : Int) = z at *
  simp [xGrown, exM, num_grown, exM, orc, orcD, evF, evC, evOps, evOper, evAny, evOp, evCall, putR, putA, Fr.ev, Fr.of, Fr.get, Fr.set, stable, junkA, junkL, resultsA, resA, same, hlen, had, hm, hc, Fr.get_set]

/-- A number as it is written. -/
def putF : Nat → Nat → List UInt8
  | 0, _ => []
  | k + 1, n => if n < 128 then [UInt8.ofNat n] else UInt8.ofNat (n % 128 + 128) :: putF k (n / 128)

theorem put_pos : ∀ (k n : Nat), 0 < (putF (k + 1) n).length
  | k, n => by simp only [putF]; split <;> simp

theorem put_at : ∀ (k n j : Nat), n < 128 ^ k → j < (putF k n).length →
    (j + 1 < (putF k n).length → 128 ≤ n / 128 ^ j ∧ (putF k n)[j]? = some (UInt8.ofNat (n / 128 ^ j % 128 + 128))) ∧ (j + 1 = (putF k n).length → n / 128 ^ j < 128 ∧ (putF k n)[j]? = some (UInt8.ofNat (n / 128 ^ j)))
  | 0, n, j, h, hj => by simp [putF] at hj
  | k + 1, n, j, h, hj => by
    simp only [putF] at hj ⊢
    split
    · rename_i hn
      rw [if_pos hn] at hj
      have : j = 0 := by simpa using hj
      subst this
      simp [hn]
    · rename_i hn
      rw [if_neg hn] at hj
      cases j with
      | zero =>
        refine ⟨fun _ => by simp; omega, fun h1 => ?_⟩
        exfalso
        cases k with
        | zero => simp at h; omega
        | succ k => have := put_pos k (n / 128); rw [List.length_cons] at h1; omega
      | succ j =>
        have hn' : n / 128 < 128 ^ k := by rw [Nat.pow_succ] at h; omega
        have := put_at k (n / 128) j hn' (by simpa using hj)
        have e : n / 128 ^ (j + 1) = n / 128 / 128 ^ j := by rw [Nat.pow_succ, Nat.mul_comm, Nat.div_div_eq_div_mul]
        rw [e]
        simpa using this

theorem putF_len : ∀ k n, (putF k n).length ≤ k
  | 0, _ => by simp [putF]
  | k + 1, n => by simp only [putF]; split <;> simp; exact putF_len k (n / 128)

theorem or128 {m : Nat} : binA .or (.int .u8 ((m % 256 : Nat) : Int)) (.int .u8 128) = some (.int .u8 ((m % 128 + 128 : Nat) : Int)) := by
  have h : ∀ a : Fin 256, (BitVec.ofInt 8 (a.val : Int) ||| BitVec.ofInt 8 128).toNat = a.val % 128 + 128 := by decide +kernel
  have h1 := h ⟨m % 256, Nat.mod_lt _ (by omega)⟩
  have e : m % 256 % 128 = m % 128 := Nat.mod_mod_of_dvd m (by decide)
  rw [e] at h1
  have h2 : IntKind.u8.wrap ((BitVec.ofInt IntKind.u8.bits ((m % 256 : Nat) : Int) ||| BitVec.ofInt IntKind.u8.bits 128).toNat : Int) = ((m % 128 + 128 : Nat) : Int) := by
    have : IntKind.u8.bits = 8 := rfl
    rw [this, h1, conv_u8 (by omega) (by omega)]
  simp only [binA, intBin]
  rw [if_neg (by simp), if_pos trivial]
  exact congrArg (fun z => some (AVal.int .u8 z)) h2

theorem wrap_u8 (n : Nat) : IntKind.u8.wrap (n : Int) = ((n % 256 : Nat) : Int) := by
  simp [IntKind.wrap, IntKind.bits, IntKind.signed]

theorem shr7 (n : Nat) : binA .shr (.int .u64 (n : Int)) (.int .u64 7) = some (.int .u64 ((n / 128 : Nat) : Int)) := by
  simp only [binA, shiftA]
  rw [if_pos (by simp), if_neg (by omega)]
  have h : (n : Int).fdiv (2 ^ (min ((7 : Int).toNat) IntKind.u64.bits)) = ((n / 128 : Nat) : Int) := by
    have e : min ((7 : Int).toNat) IntKind.u64.bits = 7 := by simp [IntKind.bits]
    rw [e, Int.fdiv_eq_ediv_of_nonneg _ (by decide)]
    rfl
  rw [h]

noncomputable def oPut : Orc := orc [xGrown]
noncomputable def xPut : Model := exM oPut num_Put 100

theorem put_loop {f : Fr} {T : St} {m : AVal} {u : List UInt8} {r n : Nat} (hl : u.length ≤ 1000000000) (hn : n < 128 ^ 10) (hm : MsgI T m u r) (h1 : f.get 1 = .int .u64 (n : Int)) (h5 : f.get 5 = m) :
    Post (evC oPut 100 num_Put_s1 f T) fun e f' T' => e = .normal ∧ ∃ (m' : AVal) (l : Nat), MsgI T' m' (u ++ (putF 10 n).take ((putF 10 n).length - 1)) r ∧ Keeps T T' [r] ∧ f'.get 1 = .int .u64 (l : Int) ∧ f'.get 5 = m' ∧ l < 128 ∧ (putF 10 n)[(putF 10 n).length - 1]? = some (UInt8.ofNat l) := by
  have hpos : 0 < (putF 10 n).length := put_pos 9 n
  have hlen := putF_len 10 n
  obtain ⟨f', T', g1, g2⟩ := loop_post (O := oPut) (k := 100) (id := 0) (b := num_Put_l0)
    (I := fun j f T' => ∃ m', MsgI T' m' (u ++ (putF 10 n).take j) r ∧ Keeps T T' [r] ∧ f.get 1 = .int .u64 ((n / 128 ^ j : Nat) : Int) ∧ f.get 5 = m')
    (Q := fun f' T' => ∃ (m' : AVal) (l : Nat), MsgI T' m' (u ++ (putF 10 n).take ((putF 10 n).length - 1)) r ∧ Keeps T T' [r] ∧ f'.get 1 = .int .u64 (l : Int) ∧ f'.get 5 = m' ∧ l < 128 ∧ (putF 10 n)[(putF 10 n).length - 1]? = some (UInt8.ofNat l))
    ((putF 10 n).length - 1) (by omega)
    (by
      rintro j hj f T1 ⟨m1, k1, k2, k3, k5⟩
      obtain ⟨a1, a2⟩ := (put_at 10 n j hn (by omega)).1 (by omega)
      have hge : binA .geq (.int .u64 ((n / 128 ^ j : Nat) : Int)) (.int .u64 128) = some (.bool true) := geq_t (by omega)
      have hcv := wrap_u8 (n / 128 ^ j)
      have hor := or128 (m := n / 128 ^ j)
      have hsh := shr7 (n / 128 ^ j)
      have hb : UInt8.toNat (UInt8.ofNat (n / 128 ^ j % 128 + 128)) = n / 128 ^ j % 128 + 128 := by simp; omega
      obtain ⟨m2, T2, b1, b2, b3⟩ := k1.app1 (UInt8.ofNat (n / 128 ^ j % 128 + 128)) (by simp; omega)
      rw [hb] at b1
      have e : (u ++ (putF 10 n).take j) ++ [UInt8.ofNat (n / 128 ^ j % 128 + 128)] = u ++ (putF 10 n).take (j + 1) := by
        rw [List.take_add_one, a2]; simp
      rw [e] at b2
      have hd : n / 128 ^ j / 128 = n / 128 ^ (j + 1) := by rw [Nat.div_div_eq_div_mul, Nat.pow_succ]
      rw [hd] at hsh
      suffices hmid : Post (evC oPut 100 num_Put_l0 f T1) (fun e f' T' => e = .normal ∧ T' = T2 ∧ f'.get 1 = .int .u64 ((n / 128 ^ (j + 1) : Nat) : Int) ∧ f'.get 5 = m2) by
        refine hmid.mono ?_
        rintro e f' T' ⟨c1, rfl, c3, c4⟩
        exact ⟨c1, m2, b2, k2.trans b3 (fun q hq => .inl hq), c3, c4⟩
      generalize ((n / 128 ^ j : Nat) : Int) = z at *
      generalize ((n / 128 ^ (j + 1) : Nat) : Int) = z1 at *
      generalize ((n / 128 ^ j % 256 : Nat) : Int) = z2 at *
      generalize ((n / 128 ^ j % 128 + 128 : Nat) : Int) = z3 at *
      simp [num_Put_l0, exM, orc, orcD, evF, evC, evOps, evOper, evAny, evOp, evCall, putR, putA, Fr.ev, Fr.of, Fr.get, Fr.set, stable, junkA, junkL, resultsA, resA, same, oPut, Fr.get_set, k3, k5, hge, hcv, hor, hsh, b1, fillA, cells?, splice, Post_some])
    (by
      rintro f T1 ⟨m1, k1, k2, k3, k5⟩
      obtain ⟨a1, a2⟩ := (put_at 10 n ((putF 10 n).length - 1) hn (by omega)).2 (by omega)
      have hge : binA .geq (.int .u64 ((n / 128 ^ ((putF 10 n).length - 1) : Nat) : Int)) (.int .u64 128) = some (.bool false) := geq_f (by omega)
      suffices hmid : Post (evC oPut 100 num_Put_l0 f T1) (fun e f' T' => e = .exit 0 ∧ T' = T1 ∧ f'.get 1 = f.get 1 ∧ f'.get 5 = f.get 5) by
        refine hmid.mono ?_
        rintro e f' T' ⟨c1, rfl, c3, c4⟩
        exact ⟨c1, m1, _, k1, k2, by rw [c3, k3], by rw [c4, k5], a1, a2⟩
      generalize ((n / 128 ^ ((putF 10 n).length - 1) : Nat) : Int) = z at *
      simp [num_Put_l0, exM, orc, orcD, evF, evC, evOps, evOper, evAny, evOp, evCall, putR, putA, Fr.ev, Fr.of, Fr.get, Fr.set, stable, junkA, junkL, resultsA, resA, same, oPut, Fr.get_set, k3, k5, hge, Post_some])
    (f := f) (S := T) ⟨m, by simpa using hm, Keeps.refl .., by simpa using h1, h5⟩
  rw [show num_Put_s1 = .block 0 (.loop num_Put_l0) from rfl, g1]
  exact Post.of rfl ⟨rfl, g2⟩

theorem put_ok {S : St} {x : AVal} {u : List UInt8} {n : Nat} (hx : Rd S x u) (hl : u.length ≤ 1000000000) (hn : n < 128 ^ 10) :
    ∃ y T r, xPut [x, .int .u64 (n : Int)] S = some (y, T) ∧ Keeps S T [] ∧ S.length ≤ r ∧ MsgI T y (u ++ putF 10 n) r := by
  obtain ⟨y, T, h1, h2, h3⟩ := grown_ok hx hl
  have hlen := putF_len 10 n
  have hpos : 0 < (putF 10 n).length := put_pos 9 n
  suffices hs : Post (evC oPut 100 num_Put.body (Fr.of [x, .int .u64 (n : Int)]) S) (fun e f T => (e = .normal ∨ e = .ret) ∧ ∃ m r, resultsA f T num_Put.results = some m ∧ Keeps S T [] ∧ S.length ≤ r ∧ MsgI T m (u ++ putF 10 n) r) by
    obtain ⟨e, f, T, g1, g2, m, r, g3, g4, g5, g6⟩ := hs.ex
    exact ⟨m, T, r, evF_post rfl rfl (Post.of g1 ⟨g2, g3, rfl⟩), g4, g5, g6⟩
  simp only [num_Put, num_Put_t2, Post_seq]
  generalize hz : (n : Int) = z
  simp [exM, orc, orcD, evF, evC, evOps, evOper, evAny, evOp, evCall, putR, putA, Fr.ev, Fr.of, Fr.get, Fr.set, stable, junkA, junkL, resultsA, resA, same, oPut, h1, Fr.get_set, Post_some]
  refine (put_loop (m := y) (u := u) (r := S.length) (n := n) hl hn h3 (by subst hz; rfl) rfl).mono ?_
  rintro e f' T' ⟨rfl, m', l, k1, k2, k3, k4, k5, k6⟩
  have hcv := wrap_u8 l
  have hlm : l % 256 = l := by omega
  rw [hlm] at hcv
  obtain ⟨m2, T2, b1, b2, b3⟩ := k1.app1 (UInt8.ofNat l) (by simp; omega)
  have hb : UInt8.toNat (UInt8.ofNat l) = l := by simp; omega
  rw [hb] at b1
  have e : (u ++ (putF 10 n).take ((putF 10 n).length - 1)) ++ [UInt8.ofNat l] = u ++ putF 10 n := by
    have := List.take_add_one (l := putF 10 n) (i := (putF 10 n).length - 1)
    rw [k6, show (putF 10 n).length - 1 + 1 = (putF 10 n).length by omega, List.take_length] at this
    rw [List.append_assoc]; congr 1; exact this.symm
  rw [e] at b2
  simp only [if_pos]
  generalize (l : Int) = zl at *
  simp [exM, orc, orcD, evF, evC, evOps, evOper, evAny, evOp, evCall, putR, putA, Fr.ev, Fr.of, Fr.get, Fr.set, stable, junkA, junkL, resultsA, resA, same, Fr.get_set, k3, k4, hcv, b1, fillA, cells?, splice, resultsA, Post_some]
  exact ⟨(h2.after k2 (Nat.le_refl _)).after b3 (Nat.le_refl _), S.length, Nat.le_refl _, b2⟩
end Am.Bis
end

/- Strings written; the document's numbers. -/
section
namespace Am.Bis
open Am Go Am.Ir Am.Sha
set_option maxRecDepth 100000

def putStr (w : List UInt8) : List UInt8 := putF 10 w.length ++ w

noncomputable def xPutString : Model := exM (orc [xPut]) num_PutString 10

theorem putString_ok {S : St} {x y : AVal} {u w : List UInt8} (hx : Rd S x u) (hy : Rd S y w) (hl : u.length ≤ 1000000000) (hw : w.length ≤ 1000000000) :
    ∃ m T r, xPutString [x, y] S = some (m, T) ∧ Keeps S T [] ∧ S.length ≤ r ∧ MsgI T m (u ++ putStr w) r := by
  obtain ⟨m, T, r, h1, h2, h3, h4⟩ := put_ok (n := w.length) hx hl (by omega)
  have hlen := hy.len
  have hp := putF_len 10 w.length
  have hcv : IntKind.u64.wrap (w.length : Int) = (w.length : Int) := conv_u64 (by omega) (by omega)
  obtain ⟨m2, T2, b1, b2, b3⟩ := h4.app (hy.keep h2).cells (by simp; omega)
  refine ⟨m2, T2, r, ?_, h2.after b3 h3, h3, by rw [List.append_assoc] at b2; exact b2⟩
  generalize (w.length : Int) = z at *
  simp [xPutString, exM, num_PutString, exM, orc, orcD, evF, evC, evOps, evOper, evAny, evOp, evCall, putR, putA, Fr.ev, Fr.of, Fr.get, Fr.set, stable, junkA, junkL, resultsA, resA, same, hlen, hcv, h1, b1, Fr.get_set]

theorem rem128 (n : Nat) : binA .rem (.int .u64 (n : Int)) (.int .u64 128) = some (.int .u64 ((n % 128 : Nat) : Int)) := by
  have h1 : (n : Int).tmod 128 = ((n % 128 : Nat) : Int) := by rw [Int.tmod_eq_emod_of_nonneg (by omega)]; rfl
  simp [binA, intBin, h1]
theorem quo128 {n : Nat} (hn : n ≤ 18446744073709551615) : binA .quo (.int .u64 (n : Int)) (.int .u64 128) = some (.int .u64 ((n / 128 : Nat) : Int)) := by
  have h1 : (n : Int).tdiv 128 = ((n / 128 : Nat) : Int) := by rw [Int.tdiv_eq_ediv_of_nonneg (by omega)]; rfl
  have h2 := conv_u64 (n := ((n / 128 : Nat) : Int)) (by omega) (by omega)
  simp [binA, intBin, h1]
  simpa using h2
theorem add128 (n : Nat) : binA .add (.int .u64 ((n % 128 : Nat) : Int)) (.int .u64 128) = some (.int .u64 ((n % 128 + 128 : Nat) : Int)) := by
  have h2 := conv_u64 (n := ((n % 128 : Nat) : Int) + 128) (by omega) (by omega)
  simp only [binA, intBin]
  rw [if_neg (by simp), if_pos trivial, h2]; rfl

noncomputable def xPut2 : Model := exM (orc []) r01_Put 100

theorem put2_loop {f : Fr} {T : St} {m : AVal} {u : List UInt8} {r n : Nat} (hl : u.length ≤ 1000000000) (hn : n ≤ 18446744073709551615) (hm : MsgI T m u r) (h1 : f.get 1 = .int .u64 (n : Int)) (h5 : f.get 5 = m) :
    Post (evC (orc []) 100 r01_Put_s1 f T) fun e f' T' => e = .normal ∧ ∃ (m' : AVal) (l : Nat), MsgI T' m' (u ++ (putF 10 n).take ((putF 10 n).length - 1)) r ∧ Keeps T T' [r] ∧ f'.get 1 = .int .u64 (l : Int) ∧ f'.get 5 = m' ∧ l < 128 ∧ (putF 10 n)[(putF 10 n).length - 1]? = some (UInt8.ofNat l) := by
  have hpos : 0 < (putF 10 n).length := put_pos 9 n
  have hlen := putF_len 10 n
  have hn' : n < 128 ^ 10 := by omega
  obtain ⟨f', T', g1, g2⟩ := loop_post (O := orc []) (k := 100) (id := 0) (b := r01_Put_l0)
    (I := fun j f T' => ∃ m', MsgI T' m' (u ++ (putF 10 n).take j) r ∧ Keeps T T' [r] ∧ f.get 1 = .int .u64 ((n / 128 ^ j : Nat) : Int) ∧ f.get 5 = m')
    (Q := fun f' T' => ∃ (m' : AVal) (l : Nat), MsgI T' m' (u ++ (putF 10 n).take ((putF 10 n).length - 1)) r ∧ Keeps T T' [r] ∧ f'.get 1 = .int .u64 (l : Int) ∧ f'.get 5 = m' ∧ l < 128 ∧ (putF 10 n)[(putF 10 n).length - 1]? = some (UInt8.ofNat l))
    ((putF 10 n).length - 1) (by omega)
    (by
      rintro j hj f T1 ⟨m1, k1, k2, k3, k5⟩
      obtain ⟨a1, a2⟩ := (put_at 10 n j hn' (by omega)).1 (by omega)
      have hge : binA .geq (.int .u64 ((n / 128 ^ j : Nat) : Int)) (.int .u64 128) = some (.bool true) := geq_t (by omega)
      have hle : n / 128 ^ j ≤ n := Nat.div_le_self ..
      have hrm := rem128 (n / 128 ^ j)
      have had := add128 (n / 128 ^ j)
      have hcv : IntKind.u8.wrap ((n / 128 ^ j % 128 + 128 : Nat) : Int) = ((n / 128 ^ j % 128 + 128 : Nat) : Int) := conv_u8 (by omega) (by omega)
      have hsh := quo128 (n := n / 128 ^ j) (by omega)
      have hb : UInt8.toNat (UInt8.ofNat (n / 128 ^ j % 128 + 128)) = n / 128 ^ j % 128 + 128 := by simp; omega
      obtain ⟨m2, T2, b1, b2, b3⟩ := k1.app1 (UInt8.ofNat (n / 128 ^ j % 128 + 128)) (by simp; omega)
      rw [hb] at b1
      have e : (u ++ (putF 10 n).take j) ++ [UInt8.ofNat (n / 128 ^ j % 128 + 128)] = u ++ (putF 10 n).take (j + 1) := by
        rw [List.take_add_one, a2]; simp
      rw [e] at b2
      have hd : n / 128 ^ j / 128 = n / 128 ^ (j + 1) := by rw [Nat.div_div_eq_div_mul, Nat.pow_succ]
      rw [hd] at hsh
      suffices hmid : Post (evC (orc []) 100 r01_Put_l0 f T1) (fun e f' T' => e = .normal ∧ T' = T2 ∧ f'.get 1 = .int .u64 ((n / 128 ^ (j + 1) : Nat) : Int) ∧ f'.get 5 = m2) by
        refine hmid.mono ?_
        rintro e f' T' ⟨c1, rfl, c3, c4⟩
        exact ⟨c1, m2, b2, k2.trans b3 (fun q hq => .inl hq), c3, c4⟩
      generalize ((n / 128 ^ j : Nat) : Int) = z at *
      generalize ((n / 128 ^ (j + 1) : Nat) : Int) = z1 at *
      generalize ((n / 128 ^ j % 128 + 128 : Nat) : Int) = z3 at *
      generalize ((n / 128 ^ j % 128 : Nat) : Int) = z2 at *
      simp [r01_Put_l0, exM, orc, orcD, evF, evC, evOps, evOper, evAny, evOp, evCall, putR, putA, Fr.ev, Fr.of, Fr.get, Fr.set, stable, junkA, junkL, resultsA, resA, same, Fr.get_set, k3, k5, hge, hcv, hrm, had, hsh, b1, fillA, cells?, splice, Post_some])
    (by
      rintro f T1 ⟨m1, k1, k2, k3, k5⟩
      obtain ⟨a1, a2⟩ := (put_at 10 n ((putF 10 n).length - 1) hn' (by omega)).2 (by omega)
      have hge : binA .geq (.int .u64 ((n / 128 ^ ((putF 10 n).length - 1) : Nat) : Int)) (.int .u64 128) = some (.bool false) := geq_f (by omega)
      suffices hmid : Post (evC (orc []) 100 r01_Put_l0 f T1) (fun e f' T' => e = .exit 0 ∧ T' = T1 ∧ f'.get 1 = f.get 1 ∧ f'.get 5 = f.get 5) by
        refine hmid.mono ?_
        rintro e f' T' ⟨c1, rfl, c3, c4⟩
        exact ⟨c1, m1, _, k1, k2, by rw [c3, k3], by rw [c4, k5], a1, a2⟩
      generalize ((n / 128 ^ ((putF 10 n).length - 1) : Nat) : Int) = z at *
      simp [r01_Put_l0, exM, orc, orcD, evF, evC, evOps, evOper, evAny, evOp, evCall, putR, putA, Fr.ev, Fr.of, Fr.get, Fr.set, stable, junkA, junkL, resultsA, resA, same, Fr.get_set, k3, k5, hge, Post_some])
    (f := f) (S := T) ⟨m, by simpa using hm, Keeps.refl .., by simpa using h1, h5⟩
  rw [show r01_Put_s1 = .block 0 (.loop r01_Put_l0) from rfl, g1]
  exact Post.of rfl ⟨rfl, g2⟩

theorem put2_ok {S : St} {x : AVal} {u : List UInt8} {n : Nat} (hx : Rd S x u) (hl : u.length ≤ 1000000000) (hn : n ≤ 18446744073709551615) :
    ∃ y T r, xPut2 [x, .int .u64 (n : Int)] S = some (y, T) ∧ Keeps S T [] ∧ S.length ≤ r ∧ MsgI T y (u ++ putF 10 n) r := by
  obtain ⟨S1, hS1⟩ : ∃ S1 : St, S ++ [.live 0 []] = S1 := ⟨_, rfl⟩
  have hk1 : Keeps S S1 [] := by rw [← hS1]; exact Keeps.append ..
  have h1 : MsgI S1 (.sl S.length 0 0 0 1) [] S.length := ⟨0, rfl, by rw [← hS1]; simp [bcells]⟩
  obtain ⟨y, T, a1, h3, a3⟩ := h1.app (hx.keep hk1).cells (by simp; omega)
  rw [List.nil_append] at h3
  have h2 : Keeps S T [] := hk1.after a3 (Nat.le_refl _)
  have hlen := putF_len 10 n
  have hpos : 0 < (putF 10 n).length := put_pos 9 n
  suffices hs : Post (evC (orc []) 100 r01_Put.body (Fr.of [x, .int .u64 (n : Int)]) S) (fun e f T => (e = .normal ∨ e = .ret) ∧ ∃ m r, resultsA f T r01_Put.results = some m ∧ Keeps S T [] ∧ S.length ≤ r ∧ MsgI T m (u ++ putF 10 n) r) by
    obtain ⟨e, f, T, g1, g2, m, r, g3, g4, g5, g6⟩ := hs.ex
    exact ⟨m, T, r, evF_post rfl rfl (Post.of g1 ⟨g2, g3, rfl⟩), g4, g5, g6⟩
  simp only [r01_Put, r01_Put_t2, Post_seq]
  generalize hz : (n : Int) = z
  simp [exM, orc, orcD, evF, evC, evOps, evOper, evAny, evOp, evCall, putR, putA, Fr.ev, Fr.of, Fr.get, Fr.set, stable, junkA, junkL, resultsA, resA, same, hS1, a1, fillA, cells?, splice, Fr.get_set, Post_some]
  refine (put2_loop (m := y) (u := u) (r := S.length) (n := n) hl hn h3 (by subst hz; rfl) rfl).mono ?_
  rintro e f' T' ⟨rfl, m', l, k1, k2, k3, k4, k5, k6⟩
  have hcv := wrap_u8 l
  have hlm : l % 256 = l := by omega
  rw [hlm] at hcv
  obtain ⟨m2, T2, b1, b2, b3⟩ := k1.app1 (UInt8.ofNat l) (by simp; omega)
  have hb : UInt8.toNat (UInt8.ofNat l) = l := by simp; omega
  rw [hb] at b1
  have e : (u ++ (putF 10 n).take ((putF 10 n).length - 1)) ++ [UInt8.ofNat l] = u ++ putF 10 n := by
    have := List.take_add_one (l := putF 10 n) (i := (putF 10 n).length - 1)
    rw [k6, show (putF 10 n).length - 1 + 1 = (putF 10 n).length by omega, List.take_length] at this
    rw [List.append_assoc]; congr 1; exact this.symm
  rw [e] at b2
  simp only [if_pos]
  generalize (l : Int) = zl at *
  simp [exM, orc, orcD, evF, evC, evOps, evOper, evAny, evOp, evCall, putR, putA, Fr.ev, Fr.of, Fr.get, Fr.set, stable, junkA, junkL, resultsA, resA, same, Fr.get_set, k3, k4, hcv, b1, fillA, cells?, splice, resultsA, Post_some]
  exact ⟨(h2.after k2 (Nat.le_refl _)).after b3 (Nat.le_refl _), S.length, Nat.le_refl _, b2⟩

noncomputable def xPutString2 : Model := exM (orc [xPut2]) r01_PutString 10

theorem putString2_ok {S : St} {x y : AVal} {u w : List UInt8} (hx : Rd S x u) (hy : Rd S y w) (hl : u.length ≤ 1000000000) (hw : w.length ≤ 1000000000) :
    ∃ m T r, xPutString2 [x, y] S = some (m, T) ∧ Keeps S T [] ∧ S.length ≤ r ∧ MsgI T m (u ++ putStr w) r := by
  obtain ⟨m, T, r, h1, h2, h3, h4⟩ := put2_ok (n := w.length) hx hl (by omega)
  have hlen := hy.len
  have hp := putF_len 10 w.length
  have hcv : IntKind.u64.wrap (w.length : Int) = (w.length : Int) := conv_u64 (by omega) (by omega)
  obtain ⟨m2, T2, b1, b2, b3⟩ := h4.app (hy.keep h2).cells (by simp; omega)
  refine ⟨m2, T2, r, ?_, h2.after b3 h3, h3, by rw [List.append_assoc] at b2; exact b2⟩
  generalize (w.length : Int) = z at *
  simp [xPutString2, exM, r01_PutString, exM, orc, orcD, evF, evC, evOps, evOper, evAny, evOp, evCall, putR, putA, Fr.ev, Fr.of, Fr.get, Fr.set, stable, junkA, junkL, resultsA, resA, same, hlen, hcv, h1, b1, Fr.get_set]
end Am.Bis
end

/- Numbers read: the plain law. -/
section
namespace Am.Bis
open Am Go Am.Ir Am.Sha
set_option maxRecDepth 100000

/-- Is a number written shortly, whose last byte, at i, is c? -/
def short (i : Nat) (c : UInt8) : Bool := decide (i = 0) || (decide (c.toNat ≠ 0) && (decide (i < 9) || decide (c.toNat = 1)))

/-- A number is read: k more bytes may come. -/
def takeF : Nat → Nat → List UInt8 → Nat × List UInt8 × Nat
  | 0, _, _ => (0, [], 3)
  | _ + 1, _, [] => (0, [], 2)
  | k + 1, acc, c :: r =>
    if 128 ≤ c.toNat then takeF k (acc + (c.toNat - 128) * 128 ^ (9 - k) % 2 ^ 64) r
    else if short (9 - k) c then (acc + c.toNat * 128 ^ (9 - k) % 2 ^ 64, r, 0) else (0, [], 3)
def takeN (b : List UInt8) : Nat × List UInt8 × Nat := takeF 10 0 b

def valB : List UInt8 → Nat
  | [] => 0
  | c :: r => (c.toNat - 128) + 128 * valB r

theorem valB_app : ∀ (p : List UInt8) (c : UInt8), valB (p ++ [c]) = valB p + (c.toNat - 128) * 128 ^ p.length
  | [], c => by simp [valB]
  | x :: p, c => by
    simp only [List.cons_append, valB, valB_app p c, List.length_cons, Nat.pow_succ]
    rw [Nat.mul_add, ← Nat.add_assoc]
    congr 1
    rw [← Nat.mul_assoc, Nat.mul_comm 128, Nat.mul_assoc, Nat.mul_comm 128]

theorem valB_lt : ∀ (p : List UInt8), valB p < 128 ^ p.length
  | [] => by simp [valB]
  | c :: p => by
    have := valB_lt p
    have hc := UInt8.toNat_lt c
    simp only [valB, List.length_cons, Nat.pow_succ]
    omega

theorem put_val : ∀ (p : List UInt8) (k m : Nat), (∀ c ∈ p, 128 ≤ c.toNat) → p.length < k → m < 128 → (p = [] ∨ m ≠ 0) → putF k (valB p + m * 128 ^ p.length) = p ++ [UInt8.ofNat m]
  | [], k, m, _, hk, hm, _ => by
    cases k with
    | zero => simp at hk
    | succ k => simp [putF, valB, hm]
  | c :: p, k, m, h, hk, hm, h0 => by
    have hm0 : m ≠ 0 := by simpa using h0
    cases k with
    | zero => simp at hk
    | succ k =>
      have ih := put_val p k m (fun c hc => h c (List.mem_cons_of_mem _ hc)) (by simpa using hk) hm (.inr hm0)
      have hc := h c (List.mem_cons_self ..)
      have hc2 := UInt8.toNat_lt c
      have e : valB (c :: p) + m * 128 ^ (c :: p).length = (c.toNat - 128) + 128 * (valB p + m * 128 ^ p.length) := by
        simp only [valB, List.length_cons, Nat.pow_succ]
        rw [Nat.mul_add, Nat.add_assoc]
        congr 2
        rw [← Nat.mul_assoc, Nat.mul_comm]
      rw [e]
      have hp : 0 < 128 ^ p.length := Nat.pow_pos (by omega)
      have hpos : 1 ≤ m * 128 ^ p.length := Nat.mul_pos (by omega) hp
      have hV : 1 ≤ valB p + m * 128 ^ p.length := by omega
      generalize valB p + m * 128 ^ p.length = V at *
      simp only [putF]
      rw [if_neg (by omega)]
      have e1 : (c.toNat - 128 + 128 * V) % 128 + 128 = c.toNat := by omega
      have e2 : (c.toNat - 128 + 128 * V) / 128 = V := by omega
      rw [e1, e2, ih]
      simp

theorem mul_small {c l : Nat} (hc : c < 128) (hl : l ≤ 8) : c * 128 ^ l % 2 ^ 64 = c * 128 ^ l := by
  have h1 : 128 ^ l ≤ 128 ^ 8 := Nat.pow_le_pow_right (by omega) hl
  have h2 : c * 128 ^ l ≤ 127 * 128 ^ 8 := Nat.mul_le_mul (by omega) h1
  exact Nat.mod_eq_of_lt (by omega)

theorem put_iff (p : List UInt8) (c : UInt8) (h : ∀ x ∈ p, 128 ≤ x.toNat) (hl : p.length ≤ 9) (hc : c.toNat < 128) :
    putF 10 (valB p + c.toNat * 128 ^ p.length % 2 ^ 64) = p ++ [c] ↔ short p.length c = true := by
  have hv := valB_lt p
  have hpow : 0 < 128 ^ p.length := Nat.pow_pos (by omega)
  have hmod : c.toNat * 128 ^ p.length % 2 ^ 64 < 2 ^ 64 := Nat.mod_lt _ (by omega)
  have hp9 : 128 ^ p.length ≤ 128 ^ 9 := Nat.pow_le_pow_right (by omega) hl
  constructor
  · intro he
    by_cases h0 : p.length = 0
    · simp [short, h0]
    · have hlen : (putF 10 (valB p + c.toNat * 128 ^ p.length % 2 ^ 64)).length = p.length + 1 := by rw [he]; simp
      have hn : valB p + c.toNat * 128 ^ p.length % 2 ^ 64 < 128 ^ 10 := by omega
      have hat := (put_at 10 _ p.length hn (by omega)).2 (by omega)
      have hat0 := (put_at 10 _ (p.length - 1) hn (by omega)).1 (by omega)
      rw [he] at hat
      obtain ⟨q1, q2⟩ := hat
      have hcc : c = UInt8.ofNat ((valB p + c.toNat * 128 ^ p.length % 2 ^ 64) / 128 ^ p.length) := by simpa using q2
      have hcn : c.toNat = (valB p + c.toNat * 128 ^ p.length % 2 ^ 64) / 128 ^ p.length := by
        have := congrArg UInt8.toNat hcc
        rw [UInt8.toNat_ofNat'] at this
        exact this.trans (Nat.mod_eq_of_lt (Nat.lt_of_lt_of_le q1 (by decide)))
      have hne : c.toNat ≠ 0 := by
        intro hz
        rw [hz, Nat.zero_mul, Nat.zero_mod, Nat.add_zero] at hat0
        have e : p.length - 1 + 1 = p.length := by omega
        have h3 : valB p < 128 ^ (p.length - 1) * 128 := by rw [← Nat.pow_succ, Nat.succ_eq_add_one, e]; exact hv
        have h4 : valB p / 128 ^ (p.length - 1) < 128 := (Nat.div_lt_iff_lt_mul (Nat.pow_pos (by omega))).2 (by rw [Nat.mul_comm]; exact h3)
        exact absurd hat0.1 (Nat.not_le.2 h4)
      simp only [short, Bool.or_eq_true, Bool.and_eq_true, decide_eq_true_eq]
      refine .inr ⟨hne, ?_⟩
      by_cases h9 : p.length < 9
      · exact .inl h9
      · right
        have e9 : p.length = 9 := by omega
        rw [e9] at hcn hv
        omega
  · intro hs
    simp only [short, Bool.or_eq_true, Bool.and_eq_true, decide_eq_true_eq] at hs
    have hm : c.toNat * 128 ^ p.length % 2 ^ 64 = c.toNat * 128 ^ p.length := by
      by_cases h8 : p.length ≤ 8
      · exact mul_small hc h8
      · have e9 : p.length = 9 := by omega
        have : c.toNat = 1 := by omega
        rw [e9, this]
    rw [hm]
    have := put_val p 10 c.toNat h (by omega) hc (by
      rcases hs with h0 | ⟨h1, _⟩
      · exact .inl (List.length_eq_zero_iff.1 h0)
      · exact .inr h1)
    rw [this]; simp
end Am.Bis
end

/- Numbers read: bits; the program's Take. -/
section
namespace Am.Bis
open Am Go Am.Ir Am.Sha
set_option maxRecDepth 100000

theorem andNot128 (c : UInt8) : binA .andNot (.int .u8 (c.toNat : Int)) (.int .u8 128) = some (.int .u8 ((c.toNat % 128 : Nat) : Int)) := by
  have h : ∀ a : Fin 256, (BitVec.ofInt 8 (a.val : Int) &&& ~~~ BitVec.ofInt 8 128).toNat = a.val % 128 := by decide +kernel
  have h1 := h ⟨c.toNat, UInt8.toNat_lt c⟩
  have h2 : IntKind.u8.wrap ((BitVec.ofInt IntKind.u8.bits (c.toNat : Int) &&& ~~~ BitVec.ofInt IntKind.u8.bits 128).toNat : Int) = ((c.toNat % 128 : Nat) : Int) := by
    have : IntKind.u8.bits = 8 := rfl
    rw [this, h1, conv_u8 (by omega) (by omega)]
  simp only [binA, intBin]
  rw [if_neg (by simp), if_pos trivial]
  exact congrArg (fun z => some (AVal.int .u8 z)) h2

theorem and128 (c : UInt8) : binA .and (.int .u8 (c.toNat : Int)) (.int .u8 128) = some (.int .u8 ((c.toNat / 128 * 128 : Nat) : Int)) := by
  have h : ∀ a : Fin 256, (BitVec.ofInt 8 (a.val : Int) &&& BitVec.ofInt 8 128).toNat = a.val / 128 * 128 := by decide +kernel
  have h1 := h ⟨c.toNat, UInt8.toNat_lt c⟩
  have hc := UInt8.toNat_lt c
  have h2 : IntKind.u8.wrap ((BitVec.ofInt IntKind.u8.bits (c.toNat : Int) &&& BitVec.ofInt IntKind.u8.bits 128).toNat : Int) = ((c.toNat / 128 * 128 : Nat) : Int) := by
    have : IntKind.u8.bits = 8 := rfl
    rw [this, h1, conv_u8 (by omega) (by omega)]
  simp only [binA, intBin]
  rw [if_neg (by simp), if_pos trivial]
  exact congrArg (fun z => some (AVal.int .u8 z)) h2

theorem wrap_u64 (n : Nat) : IntKind.u64.wrap (n : Int) = ((n % 2 ^ 64 : Nat) : Int) := by
  simp [IntKind.wrap, IntKind.bits, IntKind.signed]

theorem shl7 (k : IntKind) (d i : Nat) (hi : i ≤ 9) : binA .shl (.int .u64 (d : Int)) (.int k ((7 * i : Nat) : Int)) = some (.int .u64 ((d * 128 ^ i % 2 ^ 64 : Nat) : Int)) := by
  simp only [binA, shiftA]
  rw [if_pos (by simp), if_neg (by omega)]
  have e : min (((7 * i : Nat) : Int).toNat) IntKind.u64.bits = 7 * i := by simp [IntKind.bits]; omega
  rw [e]
  have e2 : ((d : Int) * 2 ^ (7 * i)) = ((d * 128 ^ i : Nat) : Int) := by
    rw [show (128 : Nat) = 2 ^ 7 from rfl, ← Nat.pow_mul]; simp
  rw [e2, wrap_u64]

theorem or_part {a d i : Nat} (hi : i ≤ 9) (ha : a < 128 ^ i) : binA .or (.int .u64 (a : Int)) (.int .u64 ((d * 128 ^ i % 2 ^ 64 : Nat) : Int)) = some (.int .u64 ((a + d * 128 ^ i % 2 ^ 64 : Nat) : Int)) := by
  have hp : 128 ^ i ≤ 128 ^ 9 := Nat.pow_le_pow_right (by omega) hi
  have e7 : 128 ^ i = 2 ^ (7 * i) := by rw [show (128 : Nat) = 2 ^ 7 from rfl, ← Nat.pow_mul]
  have hb : d * 128 ^ i % 2 ^ 64 < 2 ^ 64 := Nat.mod_lt _ (by decide)
  have e64 : (2 : Nat) ^ 64 = 2 ^ (7 * i) * 2 ^ (64 - 7 * i) := by rw [← Nat.pow_add]; congr 1; omega
  have hq : d * 128 ^ i % 2 ^ 64 = 2 ^ (7 * i) * (d % 2 ^ (64 - 7 * i)) := by
    rw [e7, e64, Nat.mul_comm d, Nat.mul_mod_mul_left]
  have hor : a ||| (d * 128 ^ i % 2 ^ 64) = a + d * 128 ^ i % 2 ^ 64 := by
    rw [hq, Nat.or_comm, ← Nat.two_pow_add_eq_or_of_lt (by rw [← e7]; exact ha), Nat.add_comm]
  have h1 : (BitVec.ofInt 64 (a : Int) ||| BitVec.ofInt 64 ((d * 128 ^ i % 2 ^ 64 : Nat) : Int)).toNat = a + d * 128 ^ i % 2 ^ 64 := by
    rw [BitVec.toNat_or, BitVec.ofInt_natCast, BitVec.ofInt_natCast, BitVec.toNat_ofNat, BitVec.toNat_ofNat, Nat.mod_eq_of_lt (by omega : a < 2 ^ 64), Nat.mod_eq_of_lt hb, hor]
  have h64 : a + d * 128 ^ i % 2 ^ 64 < 2 ^ 64 := by rw [← h1]; exact BitVec.isLt _
  have h2 : IntKind.u64.wrap ((BitVec.ofInt IntKind.u64.bits (a : Int) ||| BitVec.ofInt IntKind.u64.bits ((d * 128 ^ i % 2 ^ 64 : Nat) : Int)).toNat : Int) = ((a + d * 128 ^ i % 2 ^ 64 : Nat) : Int) := by
    have : IntKind.u64.bits = 64 := rfl
    rw [this, h1, wrap_u64, Nat.mod_eq_of_lt h64]
  simp only [binA, intBin]
  rw [if_neg (by simp), if_pos trivial]
  exact congrArg (fun z => some (AVal.int .u64 z)) h2

theorem part_lt {a d i : Nat} (hi : i ≤ 9) (ha : a < 128 ^ i) : a + d * 128 ^ i % 2 ^ 64 < 2 ^ 64 := by
  have hb : d * 128 ^ i % 2 ^ 64 < 2 ^ 64 := Nat.mod_lt _ (by decide)
  have hp : 128 ^ i ≤ 128 ^ 9 := Nat.pow_le_pow_right (by omega) hi
  have e7 : 128 ^ i = 2 ^ (7 * i) := by rw [show (128 : Nat) = 2 ^ 7 from rfl, ← Nat.pow_mul]
  have e64 : (2 : Nat) ^ 64 = 2 ^ (7 * i) * 2 ^ (64 - 7 * i) := by rw [← Nat.pow_add]; congr 1; omega
  have hq : d * 128 ^ i % 2 ^ 64 = 2 ^ (7 * i) * (d % 2 ^ (64 - 7 * i)) := by
    rw [e7, e64, Nat.mul_comm d, Nat.mul_mod_mul_left]
  have hm : d % 2 ^ (64 - 7 * i) + 1 ≤ 2 ^ (64 - 7 * i) := Nat.mod_lt _ (Nat.pow_pos (by omega))
  have h3 : 2 ^ (7 * i) * (d % 2 ^ (64 - 7 * i) + 1) ≤ 2 ^ (7 * i) * 2 ^ (64 - 7 * i) := Nat.mul_le_mul_left _ hm
  rw [Nat.mul_add, Nat.mul_one, ← hq, ← e7] at h3
  rw [← e7] at e64
  omega

/-- The document adds. -/
theorem add_part {a d i : Nat} (hi : i ≤ 9) (ha : a < 128 ^ i) : binA .add (.int .u64 (a : Int)) (.int .u64 ((d * 128 ^ i % 2 ^ 64 : Nat) : Int)) = some (.int .u64 ((a + d * 128 ^ i % 2 ^ 64 : Nat) : Int)) := by
  have h := part_lt (d := d) hi ha
  simp only [binA, intBin]
  rw [if_neg (by simp), if_pos trivial]
  have : ((a : Int) + ((d * 128 ^ i % 2 ^ 64 : Nat) : Int)) = ((a + d * 128 ^ i % 2 ^ 64 : Nat) : Int) := by omega
  rw [this, wrap_u64, Nat.mod_eq_of_lt h]
end Am.Bis
end

/- Numbers read: the program's Take. -/
section
namespace Am.Bis
open Am Go Am.Ir Am.Sha
set_option maxRecDepth 100000

theorem Rd.upto {S : St} {x : AVal} {u : List UInt8} (h : Rd S x u) {n : Nat} (hn : n ≤ u.length) : ∃ x', slcSA 1 x none (some (.int .i64 (n : Int))) = some x' ∧ Rd S x' (u.take n) := by
  have hc := h.cells
  have hb : bounds u.length none (some (.int .i64 (n : Int))) = some (0, n) := by
    simp [bounds]; omega
  rcases h.sl with ⟨r, v, o, l, rfl⟩ | ⟨b, l, c, rfl⟩ | rfl
  · simp only [cellsOf] at hc
    split at hc
    · rename_i v' cs hS
      split at hc
      · rename_i hcond
        simp only [Option.some.injEq, Prod.mk.injEq] at hc
        obtain ⟨rfl, hcs⟩ := hc
        refine ⟨.sl r v (o + 0 * 1) (n - 0) 1, by simp [slcSA, hb], ⟨.inl ⟨_, _, _, _, rfl⟩, ?_⟩⟩
        simp only [cellsOf, hS]
        rw [if_pos ⟨hcond.1, by trivial, by omega⟩, ← bcells_take', ← hcs, List.length_take, List.take_take]
        simp
        omega
      · simp at hc
    · simp at hc
  · simp only [cellsOf] at hc
    split at hc
    · rename_i hcond
      simp only [Option.some.injEq, Prod.mk.injEq] at hc
      obtain ⟨rfl, rfl⟩ := hc
      refine ⟨.fz (b && decide (n = u.length)) (n - 0) (((bcells u).drop (0 * 1)).take ((n - 0) * 1)), by simp only [slcSA, hb]; rw [if_pos hcond], ⟨.inr (.inl ⟨_, _, _, rfl⟩), ?_⟩⟩
      simp [cellsOf, bcells_take', bcells_len]
      omega
    · simp at hc
  · simp only [cellsOf, Option.some.injEq, Prod.mk.injEq] at hc
    have hu : u = [] := List.length_eq_zero_iff.1 hc.1.symm
    subst hu
    have hn0 : n = 0 := by simpa using hn
    subst hn0
    exact ⟨.nils, rfl, ⟨.inr (.inr rfl), rfl⟩⟩

noncomputable def xIsShort : Model := exM (orc []) num_isShort 10

theorem isShort_ok (i : Nat) (c : UInt8) (S : St) : xIsShort [.int .i64 (i : Int), .int .u8 (c.toNat : Int)] S = some (.bool (short i c), S) := by
  by_cases h1 : i = 0
  · subst h1
    have b1 : binA .eql (.int .i64 ((0 : Nat) : Int)) (.int .i64 0) = some (.bool true) := rfl
    have e : short 0 c = true := rfl
    rw [e]
    generalize ((0 : Nat) : Int) = z at *
    simp [xIsShort, exM, num_isShort, exM, orc, orcD, evF, evC, evOps, evOper, evAny, evOp, evCall, putR, putA, Fr.ev, Fr.of, Fr.get, Fr.set, stable, junkA, junkL, resultsA, resA, same, b1, Fr.get_set]
  · have b1 : binA .eql (.int .i64 (i : Int)) (.int .i64 0) = some (.bool false) := eql_f (by omega)
    by_cases h2 : c.toNat = 0
    · have b2 : binA .neq (.int .u8 (c.toNat : Int)) (.int .u8 0) = some (.bool false) := neq_f (by omega)
      have e : short i c = false := by simp [short, h1, h2]
      rw [e]
      generalize (i : Int) = z at *
      generalize (c.toNat : Int) = zc at *
      simp [xIsShort, exM, num_isShort, exM, orc, orcD, evF, evC, evOps, evOper, evAny, evOp, evCall, putR, putA, Fr.ev, Fr.of, Fr.get, Fr.set, stable, junkA, junkL, resultsA, resA, same, b1, b2, Fr.get_set]
    · have b2 : binA .neq (.int .u8 (c.toNat : Int)) (.int .u8 0) = some (.bool true) := neq_t (by omega)
      by_cases h3 : i < 9
      · have b3 : binA .lss (.int .i64 (i : Int)) (.int .i64 9) = some (.bool true) := lss_t (by omega)
        have e : short i c = true := by simp only [short]; simp [h3, h2]
        rw [e]
        generalize (i : Int) = z at *
        generalize (c.toNat : Int) = zc at *
        simp [xIsShort, exM, num_isShort, exM, orc, orcD, evF, evC, evOps, evOper, evAny, evOp, evCall, putR, putA, Fr.ev, Fr.of, Fr.get, Fr.set, stable, junkA, junkL, resultsA, resA, same, b1, b2, b3, Fr.get_set]
      · have b3 : binA .lss (.int .i64 (i : Int)) (.int .i64 9) = some (.bool false) := lss_f (by omega)
        by_cases h4 : c.toNat = 1
        · have b4 : binA .eql (.int .u8 (c.toNat : Int)) (.int .u8 1) = some (.bool true) := eql_t (by omega)
          have e : short i c = true := by simp only [short]; simp [h4]
          rw [e]
          generalize (i : Int) = z at *
          generalize (c.toNat : Int) = zc at *
          simp [xIsShort, exM, num_isShort, exM, orc, orcD, evF, evC, evOps, evOper, evAny, evOp, evCall, putR, putA, Fr.ev, Fr.of, Fr.get, Fr.set, stable, junkA, junkL, resultsA, resA, same, b1, b2, b3, b4, Fr.get_set]
        · have b4 : binA .eql (.int .u8 (c.toNat : Int)) (.int .u8 1) = some (.bool false) := eql_f (by omega)
          have e : short i c = false := by simp only [short]; simp [h1, h3, h4]
          rw [e]
          generalize (i : Int) = z at *
          generalize (c.toNat : Int) = zc at *
          simp [xIsShort, exM, num_isShort, exM, orc, orcD, evF, evC, evOps, evOper, evAny, evOp, evCall, putR, putA, Fr.ev, Fr.of, Fr.get, Fr.set, stable, junkA, junkL, resultsA, resA, same, b1, b2, b3, b4, Fr.get_set]

theorem takeF_cons {j : Nat} (hj : j ≤ 9) (acc : Nat) (c : UInt8) (r : List UInt8) : takeF (10 - j) acc (c :: r) =
    if 128 ≤ c.toNat then takeF (10 - (j + 1)) (acc + (c.toNat % 128) * 128 ^ j % 2 ^ 64) r
    else if short j c then (acc + (c.toNat % 128) * 128 ^ j % 2 ^ 64, r, 0) else (0, [], 3) := by
  have e : 10 - j = (9 - j) + 1 := by omega
  have e2 : 10 - (j + 1) = 9 - j := by omega
  have e3 : 9 - (9 - j) = j := by omega
  have hc := UInt8.toNat_lt c
  rw [e, e2]
  simp only [takeF, e3]
  split
  · rename_i h
    have : c.toNat % 128 = c.toNat - 128 := by omega
    rw [this]
  · rename_i h
    have : c.toNat % 128 = c.toNat := by omega
    rw [this]

theorem acc_lt {a d j : Nat} (ha : a < 128 ^ j) (hd : d < 128) : a + d * 128 ^ j % 2 ^ 64 < 128 ^ (j + 1) := by
  have h1 : d * 128 ^ j % 2 ^ 64 ≤ d * 128 ^ j := Nat.mod_le ..
  have h2 : d * 128 ^ j ≤ 127 * 128 ^ j := Nat.mul_le_mul_right _ (by omega)
  rw [Nat.pow_succ]; omega
end Am.Bis
end

/- Numbers read: the program's Take. -/
section
namespace Am.Bis
open Am Go Am.Ir Am.Sha
set_option maxRecDepth 100000

noncomputable def oTake : Orc := orc [xIsShort, xClone]
noncomputable def xTake : Model := exM oTake num_Take 100

structure TkF (f : Fr) (x x' : AVal) (N j acc : Nat) : Prop where
  s0 : f.get 0 = x
  s5 : f.get 5 = .int .u64 (acc : Int)
  s12 : f.get 12 = x'
  s13 : f.get 13 = .int .i64 (N : Int)
  s14 : f.get 14 = .int .i64 (j : Int)

/-- What is answered. -/
def TkR (S : St) (u : List UInt8) (f : Fr) (T : St) : Prop := ∃ y, f.get 2 = .int .u64 ((takeN u).1 : Int) ∧ f.get 3 = y ∧ f.get 4 = .int .i64 ((takeN u).2.2 : Int) ∧ Keeps S T [] ∧ NewB S T y (takeN u).2.1

theorem take_round {S : St} {x x' : AVal} {u : List UInt8} {f : Fr} {j acc : Nat} {N : Nat} (hN : N = min u.length 10) (hul : u.length ≤ 1000000000) (hx : Rd S x u) (hx' : Rd S x' (u.take N)) (hj : j < N) (hacc : acc < 128 ^ j)
    (hT : takeF (10 - j) acc (u.drop j) = takeN u) (hf : TkF f x x' N j acc) :
    Post (evC oTake 100 num_Take_l0 f S) fun e f' T => (e = .normal ∧ T = S ∧ ∃ acc', TkF f' x x' N (j + 1) acc' ∧ acc' < 128 ^ (j + 1) ∧ takeF (10 - (j + 1)) acc' (u.drop (j + 1)) = takeN u) ∨ (e ≠ .normal ∧ e = .ret ∧ TkR S u f' T) := by
  have hju : j < u.length := by omega
  have hj9 : j ≤ 9 := by omega
  obtain ⟨s0, s5, s12, s13, s14⟩ := hf
  have hlss : binA .lss (.int .i64 (j : Int)) (.int .i64 (N : Int)) = some (.bool true) := lss_t (by omega)
  obtain ⟨p, hp, hld⟩ := hx'.ix (i := j) (by rw [List.length_take]; omega)
  have hlp := hld hx'
  obtain ⟨c, hc⟩ : ∃ c, u[j]? = some c := ⟨_, List.getElem?_eq_getElem hju⟩
  have hcg : (u.take N).getD j 0 = c := by simp [List.getD, List.getElem?_take, hj, hc]
  rw [hcg] at hlp
  have hdr : u.drop j = c :: u.drop (j + 1) := by
    rw [List.drop_eq_getElem_cons hju]; congr 1; exact (List.getElem?_eq_some_iff.1 hc).2
  rw [hdr, takeF_cons hj9] at hT
  have hcl := UInt8.toNat_lt c
  have hand := andNot128 c
  have hcv : IntKind.u64.wrap ((c.toNat % 128 : Nat) : Int) = ((c.toNat % 128 : Nat) : Int) := conv_u64 (by omega) (by omega)
  have hmul : binA .mul (.int .i64 7) (.int .i64 (j : Int)) = some (.int .i64 ((7 * j : Nat) : Int)) := mul_is (by omega) (by omega) (by omega)
  have hshl := shl7 .i64 (c.toNat % 128) j hj9
  have hor := or_part (d := c.toNat % 128) hj9 hacc
  have han := and128 c
  have hal := acc_lt (d := c.toNat % 128) hacc (by omega)
  have had : binA .add (.int .i64 (j : Int)) (.int .i64 1) = some (.int .i64 ((j + 1 : Nat) : Int)) := add_is (by omega) (by omega) (by omega)
  obtain ⟨A, hA⟩ : ∃ A, acc + c.toNat % 128 * 128 ^ j % 2 ^ 64 = A := ⟨_, rfl⟩
  rw [hA] at hor hT hal
  by_cases h128 : 128 ≤ c.toNat
  · rw [if_pos h128] at hT
    have hne : binA .neq (.int .u8 ((c.toNat / 128 * 128 : Nat) : Int)) (.int .u8 0) = some (.bool true) := neq_t (by omega)
    suffices hmid : Post (evC oTake 100 num_Take_l0 f S) (fun e f' T => e = .normal ∧ T = S ∧ TkF f' x x' N (j + 1) A) by
      refine hmid.mono ?_
      rintro e f' T ⟨h1, h2, h3⟩
      exact .inl ⟨h1, h2, A, h3, hal, hT⟩
    suffices hmid : Post (evC oTake 100 num_Take_l0 f S) (fun e f' T => e = .normal ∧ T = S ∧ f'.get 0 = x ∧ f'.get 5 = .int .u64 (A : Int) ∧ f'.get 12 = x' ∧ f'.get 13 = .int .i64 (N : Int) ∧ f'.get 14 = .int .i64 ((j + 1 : Nat) : Int)) by
      refine hmid.mono ?_
      rintro e f' T ⟨h1, h2, h3, h4, h5, h6, h7⟩
      exact ⟨h1, h2, ⟨h3, h4, h5, h6, h7⟩⟩
    generalize ((7 * j : Nat) : Int) = z7 at *
    generalize ((j + 1 : Nat) : Int) = zj1 at *
    generalize ((c.toNat % 128 * 128 ^ j % 2 ^ 64 : Nat) : Int) = zs at *
    generalize ((c.toNat / 128 * 128 : Nat) : Int) = zn at *
    generalize ((c.toNat % 128 : Nat) : Int) = zm at *
    generalize (c.toNat : Int) = zc at *
    generalize (j : Int) = zj at *
    generalize (N : Int) = zN at *
    generalize (A : Int) = zA at *
    generalize (acc : Int) = za at *
    simp [num_Take_l0, exM, orc, orcD, evF, evC, evOps, evOper, evAny, evOp, evCall, putR, putA, Fr.ev, Fr.of, Fr.get, Fr.set, stable, junkA, junkL, resultsA, resA, same, oTake, Fr.get_set, s0, s5, s12, s13, s14, hlss, hp, hlp, hand, hcv, hmul, hshl, hor, han, hne, had, Post_some]
  · rw [if_neg h128] at hT
    have hne : binA .neq (.int .u8 ((c.toNat / 128 * 128 : Nat) : Int)) (.int .u8 0) = some (.bool false) := neq_f (by omega)
    have hsh := isShort_ok j c S
    by_cases hs : short j c = true
    · rw [if_pos hs] at hT
      rw [hs] at hsh
      obtain ⟨x2, hx2, hr2⟩ := hx.from (n := j + 1) (by omega)
      obtain ⟨y, T, k1, k2, k3⟩ := clone_ok hr2 (by rw [List.length_drop]; omega)
      suffices hmid : Post (evC oTake 100 num_Take_l0 f S) (fun e f' T' => e = .ret ∧ T' = T ∧ f'.get 2 = .int .u64 (A : Int) ∧ f'.get 3 = y ∧ f'.get 4 = .int .i64 0) by
        refine hmid.mono ?_
        rintro e f' T' ⟨rfl, rfl, h3, h4, h5⟩
        refine .inr ⟨by simp, rfl, y, ?_, h4, ?_, k2, ?_⟩
        · rw [← hT]; exact h3
        · rw [← hT]; exact h5
        · rw [← hT]; exact k3
      generalize ((7 * j : Nat) : Int) = z7 at *
      generalize ((j + 1 : Nat) : Int) = zj1 at *
      generalize ((c.toNat % 128 * 128 ^ j % 2 ^ 64 : Nat) : Int) = zs at *
      generalize ((c.toNat / 128 * 128 : Nat) : Int) = zn at *
      generalize ((c.toNat % 128 : Nat) : Int) = zm at *
      generalize (c.toNat : Int) = zc at *
      generalize (j : Int) = zj at *
      generalize (N : Int) = zN at *
      generalize (A : Int) = zA at *
      generalize (acc : Int) = za at *
      simp [num_Take_l0, exM, orc, orcD, evF, evC, evOps, evOper, evAny, evOp, evCall, putR, putA, Fr.ev, Fr.of, Fr.get, Fr.set, stable, junkA, junkL, resultsA, resA, same, oTake, unA, Fr.get_set, s0, s5, s12, s13, s14, hlss, hp, hlp, hand, hcv, hmul, hshl, hor, han, hne, had, hsh, hx2, k1, Post_some]
    · rw [if_neg hs] at hT
      have hs' : short j c = false := by simpa using hs
      rw [hs'] at hsh
      suffices hmid : Post (evC oTake 100 num_Take_l0 f S) (fun e f' T' => e = .ret ∧ T' = S ∧ f'.get 2 = .int .u64 0 ∧ f'.get 3 = .nils ∧ f'.get 4 = .int .i64 3) by
        refine hmid.mono ?_
        rintro e f' T' ⟨rfl, rfl, h3, h4, h5⟩
        refine .inr ⟨by simp, rfl, .nils, ?_, h4, ?_, Keeps.refl .., ?_⟩
        · rw [← hT]; exact h3
        · rw [← hT]; exact h5
        · rw [← hT]; exact .inl ⟨rfl, rfl⟩
      generalize ((7 * j : Nat) : Int) = z7 at *
      generalize ((j + 1 : Nat) : Int) = zj1 at *
      generalize ((c.toNat % 128 * 128 ^ j % 2 ^ 64 : Nat) : Int) = zs at *
      generalize ((c.toNat / 128 * 128 : Nat) : Int) = zn at *
      generalize ((c.toNat % 128 : Nat) : Int) = zm at *
      generalize (c.toNat : Int) = zc at *
      generalize (j : Int) = zj at *
      generalize (N : Int) = zN at *
      generalize (A : Int) = zA at *
      generalize (acc : Int) = za at *
      simp [num_Take_l0, exM, orc, orcD, evF, evC, evOps, evOper, evAny, evOp, evCall, putR, putA, Fr.ev, Fr.of, Fr.get, Fr.set, stable, junkA, junkL, resultsA, resA, same, oTake, unA, Fr.get_set, s0, s5, s12, s13, s14, hlss, hp, hlp, hand, hcv, hmul, hshl, hor, han, hne, had, hsh, Post_some]
end Am.Bis
end

