import Derived.Test.YtffhiphcmohjdaaGreatDoorAmFz6
import Derived.Test.YtffhiphcmohjdaaGreatDoorAmSha18
import Derived.Test.YtffhiphcmohjdaaGreatDoorAmSrt1
import Derived.Lib.TrailingZeros
import Derived.Test.YtffhiphcmohjdaaGreatDoorProg
import Derived.WalkKit
import Derived.Laws.RangeString
import Derived.Laws.RangeAny
import Derived.Laws.Runes
import Derived.Laws.Strings
import Derived.Laws.Strings2
import Derived.Laws.Strings3
import Derived.LoopTactic
import Derived.Tactics2
import Derived.StillTactics
import Derived.Scope
import Derived.KernelRfl
set_option linter.all false
/- Models of one's own for runs by the kernel, and how they are reckoned. -/
section
set_option linter.all false
namespace Am.Fz
open Go Am.Sha Am.Srt
set_option maxRecDepth 100000

/-- Noughts behind a number. -/
def mTz : Model := fun args S => match args with
  | [.int .u64 (.ofNat n)] => if n < 18446744073709551616 then some (.int .i64 (.ofNat (Lib.ctz 64 n)), S) else none
  | _ => none
noncomputable def fTz : FM := fun args H k => @List.rec AVal (fun _ => Bool) false (fun v r _ => @List.rec AVal (fun _ => Bool) (asInt v (fun kd i => @IntKind.rec (fun _ => Bool) false false false false false false false
  (@Int.rec (fun _ => Bool) (fun n => ifK (Nat.ble (Nat.succ n) (nat_lit 18446744073709551616)) (forceN (Lib.ctz (nat_lit 64) n) (fun m => k (.int .i64 (.ofNat m)) H))) (fun _ => false) i) kd)) (fun _ _ _ => false) r) args
theorem fTz_ok : FOk fTz mTz := fun args H S k hr h => by
  match args, h with
  | [], h => exact Bool.noConfusion h
  | v :: _ :: _, h => exact Bool.noConfusion h
  | [v], h =>
    obtain ⟨kd, i, e, h⟩ := asInt_ok (v := v) h
    subst e
    cases kd <;> try (exact Bool.noConfusion h)
    cases i with
    | negSucc n => exact Bool.noConfusion h
    | ofNat n =>
      obtain ⟨h1, h⟩ := ifK_ok h
      have h1 : n < 18446744073709551616 := Nat.le_of_ble_eq_true h1
      rw [forceN_eq] at h
      exact ⟨_, S, H, by simp only [mTz]; rw [if_pos h1], hr, h⟩

/-- How many bits. -/
def mLenB : Model := fun args S => match args with
  | [.int .u64 n] => if 0 ≤ n ∧ n ≤ 18446744073709551615 then some (.int .i64 (Lib.bitLen n.toNat), S) else none
  | _ => none
theorem lenB_ok : LenOk mLenB := fun n S hn => ⟨_, by simp only [mLenB]; rw [if_pos (by omega)]⟩

/-- Names. -/
def signN (c : Int) : Bool := (decide (97 ≤ c) && decide (c ≤ 122)) || (decide (48 ≤ c) && decide (c ≤ 57)) || decide (c = 45)
def signU (b : UInt8) : Bool := signN (b.toNat : Int)
def nameB (l : List UInt8) : Bool := l.all signU && decide (l.length ≠ 0) && decide (l.length ≤ 12)
def mIsName : Model := fun args S => match args with
  | [.str s] => some (.bool (nameB s), S)
  | _ => none
noncomputable def fName : FM := fun args H k => @List.rec AVal (fun _ => Bool) false (fun v r _ => @List.rec AVal (fun _ => Bool) (asStr v (fun s => forceB (nameB s) (fun b => k (.bool b) H))) (fun _ _ _ => false) r) args
theorem fName_ok : FOk fName mIsName := fun args H S k hr h => by
  match args, h with
  | [], h => exact Bool.noConfusion h
  | v :: _ :: _, h => exact Bool.noConfusion h
  | [v], h =>
    obtain ⟨s, e, h⟩ := asStr_ok (v := v) h
    rw [forceB_eq] at h
    exact ⟨_, S, H, by rw [e]; rfl, hr, h⟩

/-- Bytes of cells, all in range. -/
noncomputable def rowBK : List AVal → (List UInt8 → Bool) → Bool :=
  @List.rec AVal (fun _ => (List UInt8 → Bool) → Bool) (fun k => k []) (fun x _ ih k => asInt x (fun kd i => @IntKind.rec (fun _ => Bool) false false false false
    (@Int.rec (fun _ => Bool) (fun n => ifK (Nat.ble n (nat_lit 255)) (ih (fun l => k (UInt8.ofNat n :: l)))) (fun _ => false) i) false false false kd))
theorem rowBK_ok : ∀ (l : List AVal) (k : List UInt8 → Bool), rowBK l k = true → ∃ s, l = bcells s ∧ k s = true
  | [], k, h => ⟨[], rfl, h⟩
  | x :: l, k, h => by
    obtain ⟨kd, i, e, h⟩ := asInt_ok (v := x) h
    subst e
    cases kd <;> try (exact Bool.noConfusion h)
    cases i with
    | negSucc n => exact Bool.noConfusion h
    | ofNat n =>
      obtain ⟨h1, h⟩ := ifK_ok h
      have h1 : n ≤ 255 := Nat.le_of_ble_eq_true h1
      obtain ⟨s, h2, h⟩ := rowBK_ok l (fun l => k (UInt8.ofNat n :: l)) h
      refine ⟨UInt8.ofNat n :: s, ?_, h⟩
      rw [h2]
      show _ = AVal.int .u8 ((UInt8.ofNat n).toNat : Int) :: bcells s
      have : (UInt8.ofNat n).toNat = n := by simp; omega
      rw [this]; rfl

/-- What can be read. -/
noncomputable def slK (v : AVal) (k : Bool) : Bool :=
  @AVal.casesOn (fun _ => Bool) v false (fun _ => false) (fun _ _ => false) (fun _ => false) (fun _ _ _ => false) false (fun _ _ _ _ sz => ifK (Nat.beq sz (nat_lit 1)) k) k (fun _ _ _ => k) (fun _ => false) (fun _ _ _ => false) false (fun _ _ => false) false (fun _ => false) (fun _ => false) false (fun _ => false) (fun _ => false) (fun _ _ _ _ _ _ => false)
theorem slK_ok {v : AVal} {k : Bool} (h : slK v k = true) : ((∃ r w o l, v = .sl r w o l 1) ∨ (∃ b l c, v = .fz b l c) ∨ v = .nils) ∧ k = true := by
  cases v <;> try (exact Bool.noConfusion h)
  · obtain ⟨h1, h⟩ := ifK_ok h
    have := Nat.eq_of_beq_eq_true h1
    subst this
    exact ⟨.inl ⟨_, _, _, _, rfl⟩, h⟩
  · exact ⟨.inr (.inr rfl), h⟩
  · exact ⟨.inr (.inl ⟨_, _, _, rfl⟩), h⟩
noncomputable def rdK (v : AVal) (H : FH) (k : List UInt8 → Bool) : Bool := slK v (cofK (nat_lit 1) v H (fun n l => ifK (Nat.beq (lenL l) n) (rowBK l k)))
theorem rdK_ok {v : AVal} {H : FH} {S : St} {k : List UInt8 → Bool} (hr : HRel H S) (h : rdK v H k = true) : ∃ u, Rd S v u ∧ k u = true := by
  obtain ⟨hs, h⟩ := slK_ok h
  obtain ⟨n, l, h1, h⟩ := cofK_ok hr h
  obtain ⟨h2, h⟩ := ifK_ok h
  obtain ⟨u, h3, h⟩ := rowBK_ok l k h
  have h2 := Nat.eq_of_beq_eq_true h2
  rw [lenL_eq, h3, bcells_len] at h2
  exact ⟨u, ⟨hs, by rw [h1, h2, h3]⟩, h⟩

noncomputable def partsK (H : FH) : List AVal → (List (List UInt8) → Bool) → Bool :=
  @List.rec AVal (fun _ => (List (List UInt8) → Bool) → Bool) (fun k => k []) (fun x _ ih k => rdK x H (fun u => ifK (Nat.ble (Nat.succ (lenL u)) (nat_lit 100000)) (ih (fun l => k (u :: l)))))
theorem partsK_ok {H : FH} {S : St} (hr : HRel H S) : ∀ (l : List AVal) (k : List (List UInt8) → Bool), partsK H l k = true → ∃ us, k us = true ∧ us.length = l.length ∧ (∀ u ∈ us, u.length < 100000) ∧ ∀ (i : Nat) u, us[i]? = some u → ∃ x, l[i]? = some x ∧ Rd S x u
  | [], k, h => ⟨[], h, rfl, by simp, by simp⟩
  | x :: l, k, h => by
    obtain ⟨u, h1, h⟩ := rdK_ok hr (show rdK x H (fun u => ifK (Nat.ble (Nat.succ (lenL u)) 100000) (partsK H l (fun l => k (u :: l)))) = true from h)
    obtain ⟨h2, h⟩ := ifK_ok h
    have h2 := Nat.le_of_ble_eq_true h2
    rw [lenL_eq] at h2
    obtain ⟨us, h3, h4, h5, h6⟩ := partsK_ok hr l _ h
    refine ⟨u :: us, h3, by simp [h4], ?_, fun i w hw => ?_⟩
    · intro w hw
      rcases List.mem_cons.1 hw with rfl | hw
      · exact h2
      · exact h5 w hw
    · cases i with
      | zero => cases hw; exact ⟨x, rfl, h1⟩
      | succ i => exact h6 i w (by simpa using hw)

noncomputable def fAll : FM := fun args H k => @List.rec AVal (fun _ => Bool) false (fun v r _ => @List.rec AVal (fun _ => Bool)
  (asSl v (fun r ver off len sz => ifK (Nat.beq sz (nat_lit 1)) (ifK (Nat.ble (Nat.succ len) (nat_lit 1000)) (cellsK H r ver (fun m t => rngK t off len (fun l => ifK (Nat.beq (lenL l) len) (partsK H l (fun us => k (.agg (bcells (fsha us.flatten))) H))))))) false (fun _ _ _ => false)) (fun _ _ _ => false) r) args
theorem fAll_ok : FOk fAll mAll := fun args H S k hr h => by
  match args, h with
  | [], h => exact Bool.noConfusion h
  | v :: _ :: _, h => exact Bool.noConfusion h
  | [v], h =>
    rcases asSl_ok (v := v) h with ⟨r, ver, off, len, sz, e, h⟩ | ⟨_, h⟩ | ⟨_, _, _, _, h⟩
    · obtain ⟨h1, h⟩ := ifK_ok h
      obtain ⟨h2, h⟩ := ifK_ok h
      obtain ⟨t, _, hs, hw, h⟩ := cellsK_ok hr h
      obtain ⟨h3, h⟩ := rngK_ok _ _ _ _ hw h
      obtain ⟨h4, h⟩ := ifK_ok h
      obtain ⟨us, h5, h6, h7, h8⟩ := partsK_ok hr _ _ h
      have h1 := Nat.eq_of_beq_eq_true h1
      have h2 : len + 1 ≤ 1000 := Nat.le_of_ble_eq_true h2
      have h4 := Nat.eq_of_beq_eq_true h4
      rw [lenL_eq] at h4
      subst h1
      subst e
      have hP : Parts S (.sl r ver off len 1) us := by
        refine ⟨by rw [h6, h4]; rfl, fun i u hu => ?_⟩
        obtain ⟨x, hx, hxu⟩ := h8 i u hu
        have hi : i < len := by rw [← h4]; exact (List.getElem?_eq_some_iff.1 hx).1
        refine ⟨.ptr r ver (off + i), x, by simp [iaddrSA]; omega, fun S' hS' => ⟨?_, hxu.keep hS'⟩⟩
        have := (hS'.2 r (live_lt hs) (by simp)).trans hs
        simp only [loadA, this, if_true, partA]
        rw [List.getElem?_take, if_pos hi, List.getElem?_drop] at hx
        exact hx
      have hfl : us.flatten.length < 1000000000 := by
        have : ∀ l : List (List UInt8), (∀ u ∈ l, u.length < 100000) → l.flatten.length ≤ l.length * 100000 := by
          intro l
          induction l with
          | nil => intro _; simp
          | cons a l ih =>
            intro hh
            have h1 := hh a List.mem_cons_self
            have h2 := ih (fun u hu => hh u (List.mem_cons_of_mem _ hu))
            simp only [List.flatten_cons, List.length_append, List.length_cons]; omega
        have := this us h7
        omega
      have ha := all_ok hP (by omega) h7 hfl
      rw [fsha_eq] at h5
      exact ⟨_, S, H, ha, hr, h5⟩
    · exact Bool.noConfusion h
    · exact Bool.noConfusion h

/-- Numbers in order. -/
noncomputable def insN (x : Nat) : List Nat → List Nat := @List.rec Nat (fun _ => List Nat) [x] (fun a t ih => @Bool.rec (fun _ => List Nat) (a :: ih) (x :: a :: t) (Nat.ble x a))
theorem insN_perm (x : Nat) : ∀ l : List Nat, (insN x l).Perm (x :: l)
  | [] => .refl _
  | a :: t => by
    show (@Bool.rec (fun _ => List Nat) (a :: insN x t) (x :: a :: t) (Nat.ble x a)).Perm _
    cases Nat.ble x a
    · exact ((insN_perm x t).cons a).trans (.swap _ _ _)
    · exact .refl _
theorem insN_sorted (x : Nat) : ∀ l : List Nat, l.Pairwise (· ≤ ·) → (insN x l).Pairwise (· ≤ ·)
  | [], _ => List.pairwise_singleton _ _
  | a :: t, h => by
    show (@Bool.rec (fun _ => List Nat) (a :: insN x t) (x :: a :: t) (Nat.ble x a)).Pairwise _
    obtain ⟨h1, h2⟩ := List.pairwise_cons.1 h
    cases hb : Nat.ble x a with
    | true =>
      have hle := Nat.le_of_ble_eq_true hb
      refine List.pairwise_cons.2 ⟨fun y hy => ?_, h⟩
      rcases List.mem_cons.1 hy with rfl | hy
      · exact hle
      · exact Nat.le_trans hle (h1 y hy)
    | false =>
      have hle : ¬ x ≤ a := fun e => by rw [Nat.ble_eq_true_of_le e] at hb; cases hb
      refine List.pairwise_cons.2 ⟨fun y hy => ?_, insN_sorted x t h2⟩
      rcases List.mem_cons.1 ((insN_perm x t).mem_iff.1 hy) with rfl | hy
      · omega
      · exact h1 y hy
noncomputable def keysK : List (AVal × AVal) → (List Nat → Bool) → Bool :=
  @List.rec (AVal × AVal) (fun _ => (List Nat → Bool) → Bool) (fun k => k []) (fun p _ ih k => asInt p.1 (fun kd i => @IntKind.rec (fun _ => Bool) false false false false false false
    (@Int.rec (fun _ => Bool) (fun n => ifK (Nat.ble n (nat_lit 4294967295)) (ih (fun l => k (n :: l)))) (fun _ => false) i) false kd))
theorem keysK_ok : ∀ (l : List (AVal × AVal)) (k : List Nat → Bool), keysK l k = true → ∃ ns, k ns = true ∧ keysU l = some (ns.map Int.ofNat)
  | [], k, h => ⟨[], h, rfl⟩
  | (x, y) :: l, k, h => by
    obtain ⟨kd, i, e, h⟩ := asInt_ok (v := x) h
    subst e
    cases kd <;> try (exact Bool.noConfusion h)
    cases i with
    | negSucc n => exact Bool.noConfusion h
    | ofNat n =>
      obtain ⟨h1, h⟩ := ifK_ok h
      have h1 : n ≤ 4294967295 := Nat.le_of_ble_eq_true h1
      obtain ⟨ns, h2, h3⟩ := keysK_ok l (fun l => k (n :: l)) h
      refine ⟨n :: ns, h2, ?_⟩
      simp only [keysU, h3]
      rw [if_pos (by simp; omega)]; rfl
noncomputable def srtN : List Nat → (List Nat → Bool) → Bool := @List.rec Nat (fun _ => (List Nat → Bool) → Bool) (fun k => k []) (fun n _ ih k => ih (fun l => k (insN n l)))
theorem srtN_ok : ∀ (l : List Nat) (k : List Nat → Bool), srtN l k = true → ∃ m : List Nat, k m = true ∧ m.Perm l ∧ m.Pairwise (· ≤ ·)
  | [], k, h => ⟨[], h, .refl _, .nil⟩
  | n :: l, k, h => by
    obtain ⟨m, h1, h2, h3⟩ := srtN_ok l (fun l => k (insN n l)) h
    exact ⟨_, h1, (insN_perm n m).trans (h2.cons n), insN_sorted n m h3⟩
/-- None twice, in order. -/
noncomputable def upK : List Nat → Bool := @List.rec Nat (fun _ => Bool) true (fun a t ih => @List.rec Nat (fun _ => Bool) true (fun b _ _ => ifK (Nat.ble (Nat.succ a) b) ih) t)
theorem upK_ok : ∀ {l : List Nat}, upK l = true → l.Pairwise (· < ·)
  | [], _ => .nil
  | [a], _ => List.pairwise_singleton _ _
  | a :: b :: t, h => by
    obtain ⟨h1, h2⟩ := ifK_ok (show ifK (Nat.ble (Nat.succ a) b) (upK (b :: t)) = true from h)
    have h1 : a < b := Nat.le_of_ble_eq_true h1
    have h3 := upK_ok h2
    refine List.pairwise_cons.2 ⟨fun y hy => ?_, h3⟩
    rcases List.mem_cons.1 hy with rfl | hy
    · exact h1
    · exact Nat.lt_trans h1 ((List.pairwise_cons.1 h3).1 y hy)

noncomputable def fSorted (K1 N : Nat) : FM := fun args H k => @List.rec AVal (fun _ => Bool) false (fun v r _ => @List.rec AVal (fun _ => Bool)
  (asFn v (fun g a c => ifK (Nat.beq g K1) (@List.rec AVal (fun _ => Bool) (@List.rec AVal (fun _ => Bool) false (fun p c' _ => @List.rec AVal (fun _ => Bool)
    (asPtr p (fun r ver off => ifK (Nat.beq ver (nat_lit 0)) (cellsK H r ver (fun _ t => nthK t off (fun m => asMap m false (fun j => mpK H j (fun es _ => keysK es (fun ns => ifK (Nat.ble (lenL ns) N) (srtN ns (fun l => ifK (upK l)
      (@List.rec Nat (fun _ => Bool) (k .nils H) (fun _ _ _ => forceN (lenL ns) (fun n => newLive H (l.map fun n => .int .u32 (.ofNat n)) (fun H' => k (.sl H.n (nat_lit 0) (nat_lit 0) n (nat_lit 1)) H'))) ns)))))))))) (fun _ => false))
    (fun _ _ _ => false) c') c) (fun _ _ _ => false) a)) (fun _ => false)) (fun _ _ _ => false) r) args
theorem fSorted_ok (K1 N : Nat) : FOk (fSorted K1 N) (mSorted K1 N) := fun args H S k hr h => by
  match args, h with
  | [], h => exact Bool.noConfusion h
  | v :: _ :: _, h => exact Bool.noConfusion h
  | [v], h =>
    rcases asFn_ok (v := v) h with ⟨g, a, c, e, h⟩ | ⟨_, _, h⟩
    · obtain ⟨hg, h⟩ := ifK_ok h
      have hg := Nat.eq_of_beq_eq_true hg
      match a, c, h with
      | _ :: _, _, h => exact Bool.noConfusion h
      | [], [], h => exact Bool.noConfusion h
      | [], _ :: _ :: _, h => exact Bool.noConfusion h
      | [], [p], h =>
        rcases asPtr_ok (v := p) h with ⟨r, ver, off, e', h⟩ | ⟨_, _, h⟩
        · obtain ⟨hv, h⟩ := ifK_ok h
          have hv := Nat.eq_of_beq_eq_true hv
          subst hv
          obtain ⟨t, _, h1, hw, h⟩ := cellsK_ok hr h
          obtain ⟨m, h2, h⟩ := nthK_ok _ _ _ hw h
          rcases asMap_ok h with ⟨_, h⟩ | ⟨j, e2, h⟩
          · exact Bool.noConfusion h
          · obtain ⟨es, c, _, h3, h⟩ := mpK_ok hr h
            obtain ⟨ns, h, h4⟩ := keysK_ok _ _ h
            obtain ⟨h5, h⟩ := ifK_ok h
            obtain ⟨l, h, h6, h7⟩ := srtN_ok _ _ h
            obtain ⟨h8, h⟩ := ifK_ok h
            have h5 := Nat.le_of_ble_eq_true h5
            rw [lenL_eq] at h5
            have hnd : (ns.map Int.ofNat).Nodup := by
              have h9 : l.Nodup := (upK_ok h8).imp (fun h e => by omega)
              have h10 : ns.Nodup := (h6.nodup_iff).1 h9
              exact List.pairwise_map.2 (h10.imp (fun hne e => hne (Int.ofNat.inj e)))
            have hm : mSorted K1 N [v] S = some (sortOut (ns.map Int.ofNat) S) := by
              subst e; subst e'; subst e2
              simp only [mSorted, h1, h2, h3, h4]
              rw [if_pos ⟨hg, hnd, by simpa using h5⟩]
            rw [hm]
            cases ns with
            | nil => exact ⟨.nils, S, H, rfl, hr, h⟩
            | cons n0 ns =>
              have h : forceN (lenL (n0 :: ns)) (fun n => newLive H (l.map fun n => .int .u32 (.ofNat n)) (fun H' => k (.sl H.n 0 0 n 1) H')) = true := h
              rw [forceN_eq, lenL_eq] at h
              obtain ⟨H', h9, h⟩ := newLive_ok hr h
              refine ⟨_, _, H', rfl, ?_, ?_⟩
              · have hs : sortI ((n0 :: ns).map Int.ofNat) = l.map Int.ofNat := by
                  refine (sortI_of ?_ (h6.map Int.ofNat)).symm
                  exact List.pairwise_map.2 (h7.imp (fun h => by simpa using h))
                show HRel H' (sortOut ((n0 :: ns).map Int.ofNat) S).2
                simp only [sortOut]
                rw [if_neg (by simp), hs]
                have : u32s (l.map Int.ofNat) = l.map fun n => AVal.int .u32 (.ofNat n) := by simp [u32s]
                rw [this]; exact h9
              · show k (sortOut ((n0 :: ns).map Int.ofNat) S).1 H' = true
                simp only [sortOut]
                rw [if_neg (by simp), hr.len]
                simpa using h
        · exact Bool.noConfusion h
    · exact Bool.noConfusion h

end Am.Fz
end

/- catalog.IsName, at the world: a range over a string. -/
section
namespace Go.Proofs.AlP
open Go.RowKit
set_option maxRecDepth 100000

open Am.Fz (signN signU nameB mIsName)

theorem isSign_calls (c : Int) (w : World) : Calls Tryz.prog 248 #[.int .i32 c] w fun e w' => e = .returned (.bool (signN c)) ∧ w' = w := by
  by_cases h1 : 97 ≤ c <;> by_cases h2 : c ≤ 122 <;> by_cases h3 : 48 ≤ c <;> by_cases h4 : c ≤ 57 <;> by_cases h5 : c = 45 <;> first
  | (exfalso; omega)
  | (go_enter Tryz.func248, Tryz.ntmps248
     go_wp2
     go_ret
     refine ⟨?_, rfl⟩
     refine congrArg (fun b => Ending.returned (Value.bool b)) ?_
     rw [Bool.eq_iff_iff]
     simp [signN]
     try omega)

theorem signU_ascii {b : UInt8} (h : 128 ≤ b.toNat) : signU b = false := by
  simp [signU, signN]; omega

theorem signN_high {c : Int} (h : 128 ≤ c) : signN c = false := by simp [signN]; omega

theorem isEmpty_size (s : ByteArray) : s.toList.isEmpty = decide (s.size = 0) := by
  rw [ByteArray.toList_eq]
  have e : s.size = s.data.toList.length := by simp
  rw [e]
  cases s.data.toList <;> simp

theorem isName_calls (s : ByteArray) (w : World) : Calls Tryz.prog 176 #[.string s] w fun e w' => e = .returned (.bool (s.data.toList.all signU && decide (s.size ≠ 0) && decide (s.size ≤ 12))) ∧ ∃ pos, w' = w.iter s pos := by
  go_enter Tryz.func176, Tryz.ntmps176
  go_wp2
  go_loopw [2] (fun n w' => ∃ pos : Nat, w' = w.iter s pos ∧ n = .bool false ∧ ∀ (j : Nat) (h : j < s.size), j < pos → signU (s[j]'h) = true) (fun _ w' => s.size - w'.iterPos w.heap.size)
  case atStart => exact ⟨0, rfl, rfl, by intro j _ h; omega⟩
  case round =>
    obtain ⟨pos, rfl, rfl, hc⟩ := hrel
    by_cases hp : pos < s.size
    · have hnx : ∀ ty, (Instr.next (.pointer (some ⟨w.heap.size, 0, none⟩)) true ty).run Tryz.prog (w.iter s pos) = _ := fun ty => run_next_any w s pos ty hp
      cases hb : signN ((Utf8.decode s pos).1 : Int)
      · go_wp2_with (go_at_call 248; refine (isSign_calls _ _).mono ?_; rintro e w' ⟨rfl, rfl⟩; rw [hb])
        go_ret
        refine ⟨?_, _, rfl⟩
        have hf : s.data.toList.all signU = false := by
          rw [List.all_eq_false]
          refine ⟨s[pos]'hp, List.getElem_mem (by simpa using hp), ?_⟩
          by_cases ha : (s[pos]'hp).toNat < 128
          · rw [decode_ascii s pos hp ha] at hb
            simp [signU, hb]
          · rw [signU_ascii (by omega)]; simp
        rw [hf]; rfl
      · have ha : (s[pos]'hp).toNat < 128 := by
          apply Decidable.byContradiction
          intro hn
          rw [signN_high (by have := (decode_high s pos hp (by omega)).1; omega)] at hb
          cases hb
        rw [decode_ascii s pos hp ha] at hb hnx
        go_wp2_with (go_at_call 248; refine (isSign_calls _ _).mono ?_; rintro e w' ⟨rfl, rfl⟩; rw [hb])
        go_roundw
        case rel =>
          refine ⟨pos + 1, rfl, rfl, fun j h hj => ?_⟩
          by_cases e : j = pos
          · subst e; exact hb
          · exact hc j h (by omega)
        case measure => simp; omega
    · have hnx : ∀ ty, (Instr.next (.pointer (some ⟨w.heap.size, 0, none⟩)) true ty).run Tryz.prog (w.iter s pos) = _ := fun ty => run_next_end w s pos ty hp
      have hall : s.data.toList.all signU = true := by
        rw [List.all_eq_true]
        intro x hx
        obtain ⟨j, hj, rfl⟩ := List.getElem_of_mem hx
        exact hc j (by simpa using hj) (by have : j < s.size := by simpa using hj
                                           omega)
      by_cases he : s = ByteArray.empty
      · subst he
        go_wp2
        all_goals go_ret
        all_goals exact ⟨rfl, _, rfl⟩
      · have hz := isEmpty_size s
        have hs0 : s.size ≠ 0 := fun h => he (by simpa using h)
        have hl : ¬ s.toList = [] := by
          intro h
          rw [h] at hz
          simp [hs0] at hz
        go_wp2
        all_goals go_ret
        all_goals refine ⟨?_, _, rfl⟩
        all_goals refine congrArg (fun b => Ending.returned (Value.bool b)) ?_
        all_goals (rw [hall]; simp [hs0, hl]; try omega)
end Go.Proofs.AlP

namespace Am
open Go Go.RowKit
/-- Anything new that nobody tells of. -/
theorem Rel.allocObj {W : World} {κ : Kap} {S : St} {w : World} (h : Rel W κ S w) (o : Obj) : Rel W κ S (w.alloc o) := by
  refine ⟨h.below.alloc h.below.size _, h.len, ?_, h.disj, ?_, h.fzd, h.lo, h.loops.alloc _ (fun _ _ _ h => h), h.dom, h.held.step h.loops rfl (fun b o _ hb => by rw [← hb]; exact Below.heap_alloc _ _ _ (Array.getElem?_eq_some_iff.1 hb).1)
    (fun r v cs i hr hi => .inl ⟨r, v, cs, i, hr, hi, rfl⟩) (fun b x y hy => .inl hy) (fun _ _ _ h => h) (fun _ _ h => h)⟩
  · intro r v cs i hS hi
    obtain ⟨a1, a2, a3, arr', e', fr, a4, a5, a6, a7, a8⟩ := h.own r v cs i hS hi
    refine ⟨a1, a2, a3, arr', e', fr, ?_, a5, a6, a7, a8⟩
    rw [← a4]; exact Below.heap_alloc _ _ _ (h.blk_lt hS hi)
  · intro b o' y hy
    have := h.fz b o' y hy
    rw [World.cell?_alloc_lt _ _ _ (World.block_lt_of_cell? _ _ this)]; exact this
end Am

namespace Go.Proofs.AlP
open Am Am.Fz Go.RowKit
theorem nameC : Callable Tryz.prog 176 := ⟨_, Tryz.func176, by kernel_rfl, by kernel_rfl⟩
theorem sIsName : Sound Tryz.prog 176 mIsName := by
  intro W hW args S v S' hm
  refine ⟨nameC, ?_⟩
  unfold mIsName at hm
  split at hm
  · rename_i l
    simp only [Option.some.injEq, Prod.mk.injEq] at hm
    obtain ⟨rfl, rfl⟩ := hm
    intro κ w args' hr ha
    obtain ⟨y, ys, rfl, h1, h2⟩ := ha.uncons
    have := h2.unnil; subst this
    cases h1 with
    | str _ b hb =>
    refine (isName_calls _ w).mono ?_
    rintro e w' ⟨rfl, pos, rfl⟩
    refine ⟨.bool (nameB l), _, _, κ, rfl, ⟨rfl, rfl⟩, ?_, hr.allocObj _, Kap.le_refl κ⟩
    have e : nameB l = (b.data.toList.all signU && decide (b.size ≠ 0) && decide (b.size ≤ 12)) := by
      rw [← hb]
      have e2 : b.size = b.data.toList.length := by simp
      rw [e2]; rfl
    rw [← e]
    exact .bool _
  · simp at hm
end Go.Proofs.AlP
end

