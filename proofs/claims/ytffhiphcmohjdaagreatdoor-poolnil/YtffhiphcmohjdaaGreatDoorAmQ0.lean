/- Code of functions, taken out of the program itself: loops by number, zero cells by name. -/
import Derived.Test.YtffhiphcmohjdaaGreatDoorAmFun
set_option linter.all false
namespace Am
open Go

def zH' : List AVal := List.replicate 32 (.int .u8 0)
def zP' : List AVal := zH' ++ [.int .u32 0, .int .u32 0, .int .u32 0]
def zN' : List AVal := zP' ++ zP' ++ zP' ++ zP'
def zM' : List AVal := List.replicate 512 (.int .u8 0)
def zE' : List AVal := List.replicate 44 (.int .u8 0)
def zW' : List AVal := zN' ++ zN' ++ [.int .i64 0]
def zSt' : List AVal := [.int .u32 0, .nils, .nils, .int .u32 0] ++ zP'
def zSe' : List AVal := [.int .u32 0, .str []] ++ zP' ++ [.nils]
def zSn' : List AVal := [.str [], .int .u32 0] ++ zP' ++ zP' ++ [.bool false, .bool false]
def zLo' : List AVal := [.int .u32 0, .str [], .int .i64 0] ++ zH'
def zLb' : List AVal := [.int .u32 0] ++ zP' ++ [.nils]
@[irreducible] def zH : List AVal := zH'
@[irreducible] def zP : List AVal := zP'
@[irreducible] def zN : List AVal := zN'
@[irreducible] def zM : List AVal := zM'
@[irreducible] def zE : List AVal := zE'
@[irreducible] def zW : List AVal := zW'
@[irreducible] def zSt : List AVal := zSt'
@[irreducible] def zSe : List AVal := zSe'
@[irreducible] def zSn : List AVal := zSn'
@[irreducible] def zLo : List AVal := zLo'
@[irreducible] def zLb : List AVal := zLb'
@[irreducible] def ckI (n : Nat) : List CK := List.replicate n .i
theorem ckI_eq (n : Nat) : ckI n = List.replicate n .i := by unfold ckI; rfl
theorem zH_eq : zH = zH' := by unfold zH; rfl
theorem zP_eq : zP = zP' := by unfold zP; rfl
theorem zN_eq : zN = zN' := by unfold zN; rfl
theorem zM_eq : zM = zM' := by unfold zM; rfl
theorem zE_eq : zE = zE' := by unfold zE; rfl
theorem zW_eq : zW = zW' := by unfold zW; rfl
theorem zSt_eq : zSt = zSt' := by unfold zSt; rfl
theorem zSe_eq : zSe = zSe' := by unfold zSe; rfl
theorem zSn_eq : zSn = zSn' := by unfold zSn; rfl
theorem zLo_eq : zLo = zLo' := by unfold zLo; rfl
theorem zLb_eq : zLb = zLb' := by unfold zLb; rfl

/-- Zero cells, by number. -/
def Zf : Nat → List AVal
  | 0 => zH | 1 => zP | 2 => zN | 3 => zM | 4 => zE | 5 => zW | 6 => zSt | 7 => zSe | 8 => zSn | 9 => zLo | _ => zLb
@[simp] theorem Zf0 : Zf 0 = zH := rfl
@[simp] theorem Zf1 : Zf 1 = zP := rfl
@[simp] theorem Zf2 : Zf 2 = zN := rfl
@[simp] theorem Zf3 : Zf 3 = zM := rfl
@[simp] theorem Zf4 : Zf 4 = zE := rfl
@[simp] theorem Zf5 : Zf 5 = zW := rfl
@[simp] theorem Zf6 : Zf 6 = zSt := rfl
@[simp] theorem Zf7 : Zf 7 = zSe := rfl
@[simp] theorem Zf8 : Zf 8 = zSn := rfl
@[simp] theorem Zf9 : Zf 9 = zLo := rfl
@[simp] theorem Zf10 : Zf 10 = zLb := rfl

def tidyL (Z : Nat → List AVal) (l : List AVal) : List AVal :=
  match l.length with
  | 32 => if beqL l zH' = true then Z 0 else l
  | 35 => if beqL l zP' = true then Z 1 else if beqL l zLo' = true then Z 9 else l
  | 37 => if beqL l zLb' = true then Z 10 else l
  | 38 => if beqL l zSe' = true then Z 7 else l
  | 39 => if beqL l zSt' = true then Z 6 else l
  | 44 => if beqL l zE' = true then Z 4 else l
  | 74 => if beqL l zSn' = true then Z 8 else l
  | 140 => if beqL l zN' = true then Z 2 else l
  | 281 => if beqL l zW' = true then Z 5 else l
  | 512 => if beqL l zM' = true then Z 3 else l
  | _ => l

theorem tidyL_eq (l : List AVal) : tidyL Zf l = l := by
  unfold tidyL
  split <;> (repeat' split) <;> first
    | rfl
    | (rename_i h; rw [eq_of_beqL _ _ h]; simp only [Zf0, Zf1, Zf2, Zf3, Zf4, Zf5, Zf6, Zf7, Zf8, Zf9, Zf10, zH_eq, zP_eq, zN_eq, zM_eq, zE_eq, zW_eq, zSt_eq, zSe_eq, zSn_eq, zLo_eq, zLb_eq])

def allI : List CK → Bool
  | [] => true
  | .i :: r => allI r
  | _ => false
theorem allI_eq : ∀ {l : List CK}, allI l = true → l = List.replicate l.length .i
  | [], _ => rfl
  | .i :: r, h => by rw [List.length_cons, List.replicate_succ, ← allI_eq (l := r) h]

def tidyO (Z : Nat → List AVal) (e : Nat → List CK) (o : AOper) : AOper :=
  match o with
  | ⟨d, .inl (.alloc z), g⟩ => ⟨d, .inl (.alloc (tidyL Z z)), g⟩
  | ⟨d, .inl (.build z q), g⟩ => ⟨d, .inl (.build (tidyL Z z) q), g⟩
  | ⟨d, .inl (.bslice f s k z q), g⟩ => ⟨d, .inl (.bslice f s k (tidyL Z z) q), g⟩
  | ⟨d, .inl (.mkslice s b z l c), g⟩ => ⟨d, .inl (.mkslice s b (tidyL Z z) l c), g⟩
  | ⟨d, .inl (.eqA q ks x y), g⟩ => ⟨d, .inl (.eqA q (if allI ks = true then e ks.length else ks) x y), g⟩
  | o => o
theorem tidyO_eq (o : AOper) : tidyO Zf ckI o = o := by
  unfold tidyO
  split <;> simp [tidyL_eq]
  intro h
  rw [ckI_eq]; exact (allI_eq h).symm
theorem tidyO_map (l : List AOper) : l.map (tidyO Zf ckI) = l := by
  induction l with
  | nil => rfl
  | cons a r ih => rw [List.map_cons, ih, tidyO_eq]

/-- How many loops' texts a text holds. -/
def nL : ACode → Nat
  | .seq a b => nL a + nL b
  | .cond _ a b => nL a + nL b
  | .block _ b => nL b
  | .loop b => nL b + 1
  | .range _ _ a b => nL a + nL b + 2
  | _ => 0

def rawL : ACode → Nat → ACode
  | .seq a b, n => if n < nL a then rawL a n else rawL b (n - nL a)
  | .cond _ a b, n => if n < nL a then rawL a n else rawL b (n - nL a)
  | .block _ b, n => rawL b n
  | .loop b, n => match n with
    | 0 => b
    | n + 1 => rawL b n
  | .range _ _ a b, n => match n with
    | 0 => a
    | 1 => b
    | n + 2 => if n < nL a then rawL a n else rawL b (n - nL a)
  | c, _ => c

/-- The number of the first loop in a loop's text. -/
def startL : ACode → Nat → Nat
  | .seq a b, n => if n < nL a then startL a n else nL a + startL b (n - nL a)
  | .cond _ a b, n => if n < nL a then startL a n else nL a + startL b (n - nL a)
  | .block _ b, n => startL b n
  | .loop b, n => match n with
    | 0 => 1
    | n + 1 => 1 + startL b n
  | .range _ _ a b, n => match n with
    | 0 => 2
    | 1 => 2 + nL a
    | n + 2 => if n < nL a then 2 + startL a n else 2 + nL a + startL b (n - nL a)
  | _, _ => 0

def cookX (Z : Nat → List AVal) (e : Nat → List CK) (L : Nat → ACode) : Nat → ACode → ACode
  | n, .seq a b => .seq (cookX Z e L n a) (cookX Z e L (n + nL a) b)
  | n, .cond c a b => .cond c (cookX Z e L n a) (cookX Z e L (n + nL a) b)
  | n, .block i b => .block i (cookX Z e L n b)
  | n, .loop _ => .loop (L n)
  | n, .range g ps _ _ => .range g ps (L n) (L (n + 1))
  | _, .region d ops => .region d (ops.map (tidyO Z e))
  | _, c => c



theorem cook_eq {L : Nat → ACode} : ∀ (c : ACode) (n : Nat), (∀ m, m < nL c → L (n + m) = rawL c m) → cookX Zf ckI L n c = c
  | .seq a b, n, h => by
    rw [cookX, cook_eq a n, cook_eq b (n + nL a)]
    · intro m hm
      have := h (nL a + m) (by simp only [nL]; omega)
      rw [Nat.add_assoc, this, rawL, if_neg (by omega), Nat.add_sub_cancel_left]
    · intro m hm
      rw [h m (by simp only [nL]; omega), rawL, if_pos hm]
  | .cond c a b, n, h => by
    rw [cookX, cook_eq a n, cook_eq b (n + nL a)]
    · intro m hm
      have := h (nL a + m) (by simp only [nL]; omega)
      rw [Nat.add_assoc, this, rawL, if_neg (by omega), Nat.add_sub_cancel_left]
    · intro m hm
      rw [h m (by simp only [nL]; omega), rawL, if_pos hm]
  | .block i b, n, h => by
    rw [cookX, cook_eq b n]
    intro m hm
    rw [h m hm, rawL]
  | .loop b, n, h => by
    rw [cookX, show L n = b from h 0 (by simp only [nL]; omega)]
  | .range g ps a b, n, h => by
    rw [cookX, show L n = a from h 0 (by simp only [nL]; omega), show L (n + 1) = b from h 1 (by simp only [nL]; omega)]
  | .region d ops, n, _ => by rw [cookX, tidyO_map]
  | .skip, _, _ => rfl
  | .exit _, _, _ => rfl
  | .ret, _, _ => rfl

theorem raw_in : ∀ (c : ACode) (m : Nat), m < nL c → ∀ j, j < nL (rawL c m) → startL c m + j < nL c ∧ rawL c (startL c m + j) = rawL (rawL c m) j
  | .seq a b, m, hm, j, hj => by
    simp only [nL] at hm
    by_cases h : m < nL a
    · have hs : startL (.seq a b) m = startL a m := by simp only [startL, if_pos h]
      have hr : rawL (.seq a b) m = rawL a m := by simp only [rawL, if_pos h]
      rw [hr] at hj ⊢
      rw [hs]
      obtain ⟨h1, h2⟩ := raw_in a m h j hj
      exact ⟨by simp only [nL]; omega, by rw [← h2]; simp only [rawL, if_pos h1]⟩
    · have hs : startL (.seq a b) m = nL a + startL b (m - nL a) := by simp only [startL, if_neg h]
      have hr : rawL (.seq a b) m = rawL b (m - nL a) := by simp only [rawL, if_neg h]
      rw [hr] at hj ⊢
      rw [hs]
      obtain ⟨h1, h2⟩ := raw_in b (m - nL a) (by omega) j hj
      have h3 : ¬ nL a + startL b (m - nL a) + j < nL a := by omega
      have h4 : nL a + startL b (m - nL a) + j - nL a = startL b (m - nL a) + j := by omega
      exact ⟨by simp only [nL]; omega, by rw [← h2]; simp only [rawL, if_neg h3, h4]⟩
  | .cond c a b, m, hm, j, hj => by
    simp only [nL] at hm
    by_cases h : m < nL a
    · have hs : startL (.cond c a b) m = startL a m := by simp only [startL, if_pos h]
      have hr : rawL (.cond c a b) m = rawL a m := by simp only [rawL, if_pos h]
      rw [hr] at hj ⊢
      rw [hs]
      obtain ⟨h1, h2⟩ := raw_in a m h j hj
      exact ⟨by simp only [nL]; omega, by rw [← h2]; simp only [rawL, if_pos h1]⟩
    · have hs : startL (.cond c a b) m = nL a + startL b (m - nL a) := by simp only [startL, if_neg h]
      have hr : rawL (.cond c a b) m = rawL b (m - nL a) := by simp only [rawL, if_neg h]
      rw [hr] at hj ⊢
      rw [hs]
      obtain ⟨h1, h2⟩ := raw_in b (m - nL a) (by omega) j hj
      have h3 : ¬ nL a + startL b (m - nL a) + j < nL a := by omega
      have h4 : nL a + startL b (m - nL a) + j - nL a = startL b (m - nL a) + j := by omega
      exact ⟨by simp only [nL]; omega, by rw [← h2]; simp only [rawL, if_neg h3, h4]⟩
  | .block _ b, m, hm, j, hj => by
    simp only [nL] at hm
    simp only [rawL, startL, nL] at hj ⊢
    exact raw_in b m hm j hj
  | .loop b, m, hm, j, hj => by
    simp only [nL] at hm
    cases m with
    | zero =>
      simp only [rawL, startL, nL] at hj ⊢
      exact ⟨by omega, by rw [show 1 + j = j + 1 by omega]⟩
    | succ m =>
      simp only [rawL, startL, nL] at hj ⊢
      obtain ⟨h1, h2⟩ := raw_in b m (by omega) j hj
      exact ⟨by omega, by rw [show 1 + startL b m + j = (startL b m + j) + 1 by omega]; exact h2⟩
  | .range g ps a b, m, hm, j, hj => by
    simp only [nL] at hm
    match m with
    | 0 =>
      simp only [rawL, startL, nL] at hj ⊢
      exact ⟨by omega, by rw [show 2 + j = j + 2 by omega]; simp only []; rw [if_pos hj]⟩
    | 1 =>
      simp only [rawL, startL, nL] at hj ⊢
      exact ⟨by omega, by rw [show 2 + nL a + j = (nL a + j) + 2 by omega]; simp only []; rw [if_neg (by omega), Nat.add_sub_cancel_left]⟩
    | m + 2 =>
      have e2 : ∀ n, rawL (.range g ps a b) (n + 2) = if n < nL a then rawL a n else rawL b (n - nL a) := fun n => by simp only [rawL]
      by_cases h : m < nL a
      · have hs : startL (.range g ps a b) (m + 2) = 2 + startL a m := by simp only [startL, if_pos h]
        rw [e2, if_pos h] at hj ⊢
        rw [hs]
        obtain ⟨h1, h2⟩ := raw_in a m h j hj
        exact ⟨by simp only [nL]; omega, by rw [show 2 + startL a m + j = (startL a m + j) + 2 by omega, e2, if_pos h1]; exact h2⟩
      · have hs : startL (.range g ps a b) (m + 2) = 2 + nL a + startL b (m - nL a) := by simp only [startL, if_neg h]
        rw [e2, if_neg h] at hj ⊢
        rw [hs]
        obtain ⟨h1, h2⟩ := raw_in b (m - nL a) (by omega) j hj
        exact ⟨by simp only [nL]; omega, by rw [show 2 + nL a + startL b (m - nL a) + j = (nL a + (startL b (m - nL a) + j)) + 2 by omega, e2, if_neg (by omega), Nat.add_sub_cancel_left]; exact h2⟩
  | .region _ _, m, hm, _, _ => by simp [nL] at hm
  | .skip, m, hm, _, _ => by simp [nL] at hm
  | .exit _, m, hm, _, _ => by simp [nL] at hm
  | .ret, m, hm, _, _ => by simp [nL] at hm

theorem cook_in {L : Nat → ACode} {c : ACode} (hL : ∀ m, m < nL c → L m = rawL c m) {m : Nat} (hm : m < nL c) : cookX Zf ckI L (startL c m) (rawL c m) = rawL c m :=
  cook_eq _ _ fun j hj => by
    obtain ⟨h1, h2⟩ := raw_in c m hm j hj
    rw [hL _ h1, h2]

/-- A function of the program: its number, its callees' numbers, hints. -/
structure Sp where
  id : Nat
  cs : List Nat
  hs : List (Nat × Nat)
  fn : Func

def hintF (l : List (Nat × Nat)) : Nat → Nat → Bool := fun r i => l.any fun p => p.1 == r && p.2 == i

theorem u8lit (n : Nat) (h : n < 2 ^ 8) : UInt8.ofBitVec (BitVec.ofFin ⟨n, h⟩) = UInt8.ofNat n := by
  apply UInt8.toNat.inj
  simp only [UInt8.toNat_ofNat', UInt8.toNat, BitVec.toNat_ofFin]
  exact (Nat.mod_eq_of_lt h).symm
theorem iN (n : Nat) : Int.ofNat n = (n : Int) := rfl
end Am
