import Derived.Test.YtohopanblpgldaaAmSha13
import Derived.KernelRfl
import Derived.Test.YtohopanblpgldaaAmSha19
set_option linter.all false
/- SHA-256 over plain numbers, as the kernel reckons fast. -/
section
namespace Am.Sha
open Am Go Am.Ir
set_option maxRecDepth 100000

/-- A number that is reckoned ahead of what is done with it. -/
def force {α : Type} (n : Nat) (f : Nat → α) : α := Nat.rec (motive := fun _ => α) (f 0) (fun k _ => f (Nat.succ k)) n
theorem force_eq {α : Type} (n : Nat) (f : Nat → α) : force n f = f n := by cases n <;> rfl

def rot3 (i j k x : Nat) : Nat := Nat.mod (Nat.xor (Nat.xor (Nat.shiftRight (Nat.mul x 4294967297) i) (Nat.shiftRight (Nat.mul x 4294967297) j)) (Nat.shiftRight (Nat.mul x 4294967297) k)) 4294967296
def rots (i j k x : Nat) : Nat := Nat.xor (Nat.mod (Nat.xor (Nat.shiftRight (Nat.mul x 4294967297) i) (Nat.shiftRight (Nat.mul x 4294967297) j)) 4294967296) (Nat.shiftRight x k)

/-- All rounds, over a window of sixteen numbers. -/
noncomputable def fgo (ks : List Nat) : Nat → Nat → Nat → Nat → Nat → Nat → Nat → Nat → Nat → Nat → Nat → Nat → Nat → Nat → Nat → Nat → Nat → Nat → Nat → Nat → Nat → Nat → Nat → Nat → List Nat :=
  List.rec (motive := fun _ => Nat → Nat → Nat → Nat → Nat → Nat → Nat → Nat → Nat → Nat → Nat → Nat → Nat → Nat → Nat → Nat → Nat → Nat → Nat → Nat → Nat → Nat → Nat → Nat → List Nat)
    (fun a b c d e f g o _ _ _ _ _ _ _ _ _ _ _ _ _ _ _ _ => [a, b, c, d, e, f, g, o])
    (fun k _ ih a b c d e f g o w0 w1 w2 w3 w4 w5 w6 w7 w8 w9 wa wb wc wd we wf =>
      force (Nat.add (Nat.add (Nat.add (Nat.add o (rot3 6 11 25 e)) (Nat.xor g (Nat.land e (Nat.xor f g)))) k) w0) fun t1 =>
      force (Nat.mod (Nat.add t1 (Nat.add (rot3 2 13 22 a) (Nat.lor (Nat.land a b) (Nat.land c (Nat.lor a b))))) 4294967296) fun a' =>
      force (Nat.mod (Nat.add d t1) 4294967296) fun e' =>
      force (Nat.mod (Nat.add w0 (Nat.add (Nat.add (rots 7 18 3 w1) w9) (rots 17 19 10 we))) 4294967296) fun w' =>
      ih a' a b c e' e f g w1 w2 w3 w4 w5 w6 w7 w8 w9 wa wb wc wd we wf w')
    ks

theorem fgo_nil (a b c d e f g o w0 w1 w2 w3 w4 w5 w6 w7 w8 w9 wa wb wc wd we wf : Nat) : fgo [] a b c d e f g o w0 w1 w2 w3 w4 w5 w6 w7 w8 w9 wa wb wc wd we wf = [a, b, c, d, e, f, g, o] := rfl
theorem fgo_cons (k : Nat) (ks : List Nat) (a b c d e f g o w0 w1 w2 w3 w4 w5 w6 w7 w8 w9 wa wb wc wd we wf : Nat) : fgo (k :: ks) a b c d e f g o w0 w1 w2 w3 w4 w5 w6 w7 w8 w9 wa wb wc wd we wf =
    fgo ks ((o + rot3 6 11 25 e + (g ^^^ (e &&& (f ^^^ g))) + k + w0 + (rot3 2 13 22 a + ((a &&& b) ||| (c &&& (a ||| b))))) % 4294967296) a b c
      ((d + (o + rot3 6 11 25 e + (g ^^^ (e &&& (f ^^^ g))) + k + w0)) % 4294967296) e f g
      w1 w2 w3 w4 w5 w6 w7 w8 w9 wa wb wc wd we wf ((w0 + (rots 7 18 3 w1 + w9 + rots 17 19 10 we)) % 4294967296) := by
  simp only [fgo, force_eq]
  rfl

theorem shl_bv (x : UInt32) {n : Nat} (hn : n < 32) : (x <<< UInt32.ofNat n).toBitVec = x.toBitVec <<< n := by
  apply BitVec.eq_of_toNat_eq
  have h : (UInt32.ofNat n).toNat % 32 = n := by simp; omega
  rw [BitVec.toNat_shiftLeft]
  show (x <<< UInt32.ofNat n).toNat = _
  rw [UInt32.toNat_shiftLeft, h]; rfl
theorem shr_bv (x : UInt32) {n : Nat} (hn : n < 32) : (x >>> UInt32.ofNat n).toBitVec = x.toBitVec >>> n := by
  apply BitVec.eq_of_toNat_eq
  have h : (UInt32.ofNat n).toNat % 32 = n := by simp; omega
  rw [BitVec.toNat_ushiftRight]
  show (x >>> UInt32.ofNat n).toNat = _
  rw [UInt32.toNat_shiftRight, h]; rfl

theorem rr_bit {n : Nat} (hn : n < 32) (hn0 : 0 < n) (x : UInt32) {i : Nat} (hi : i < 32) : (rr n x).toBitVec.getLsbD i = ((x.toNat * 4294967297) >>> n).testBit i := by
  have e1 : (x <<< UInt32.ofNat (32 - n)).toBitVec = x.toBitVec <<< (32 - n) := shl_bv x (by omega)
  have e2 : (x >>> UInt32.ofNat n).toBitVec = x.toBitVec >>> n := shr_bv x hn
  have hx : x.toNat < 2 ^ 32 := x.toNat_lt
  have e3 : x.toNat * 4294967297 = 2 ^ 32 * x.toNat + x.toNat := by omega
  have e4 : ∀ j, x.toBitVec.getLsbD j = x.toNat.testBit j := fun j => rfl
  simp only [rr, UInt32.toBitVec_or, e1, e2, BitVec.getLsbD_or, BitVec.getLsbD_shiftLeft, BitVec.getLsbD_ushiftRight, hi, decide_true, Bool.true_and, Nat.testBit_shiftRight, e4]
  rw [e3, Nat.testBit_two_pow_mul_add _ hx]
  by_cases h : n + i < 32
  · rw [if_pos h]
    have : i < 32 - n := by omega
    simp [this]
  · rw [if_neg h]
    have h2 : ¬ i < 32 - n := by omega
    have h3 : x.toNat.testBit (n + i) = false := Nat.testBit_lt_two_pow (Nat.lt_of_lt_of_le hx (Nat.pow_le_pow_right (by omega) (by omega)))
    simp [h2, h3, show i - (32 - n) = n + i - 32 by omega]

theorem bits_eq {a b : Nat} (ha : a < 4294967296) (hb : b < 4294967296) (h : ∀ i, i < 32 → a.testBit i = b.testBit i) : a = b := by
  apply Nat.eq_of_testBit_eq
  intro i
  by_cases hi : i < 32
  · exact h i hi
  · rw [Nat.testBit_lt_two_pow (Nat.lt_of_lt_of_le (show a < 2 ^ 32 from ha) (Nat.pow_le_pow_right (by omega) (by omega))), Nat.testBit_lt_two_pow (Nat.lt_of_lt_of_le (show b < 2 ^ 32 from hb) (Nat.pow_le_pow_right (by omega) (by omega)))]

theorem toNat_bit (x : UInt32) (i : Nat) : x.toNat.testBit i = x.toBitVec.getLsbD i := rfl

theorem rot3_eq {i j k : Nat} (hi : i < 32) (hj : j < 32) (hk : k < 32) (hi0 : 0 < i) (hj0 : 0 < j) (hk0 : 0 < k) (x : UInt32) : rot3 i j k x.toNat = (rr i x ^^^ rr j x ^^^ rr k x).toNat := by
  apply bits_eq (Nat.mod_lt _ (by omega)) (UInt32.toNat_lt _)
  intro b hb
  rw [toNat_bit]
  simp only [UInt32.toBitVec_xor, BitVec.getLsbD_xor, rr_bit hi hi0 x hb, rr_bit hj hj0 x hb, rr_bit hk hk0 x hb]
  show Nat.testBit ((((x.toNat * 4294967297) >>> i ^^^ (x.toNat * 4294967297) >>> j) ^^^ (x.toNat * 4294967297) >>> k) % 2 ^ 32) b = _
  rw [Nat.testBit_mod_two_pow]
  simp only [hb, decide_true, Bool.true_and, Nat.testBit_xor]

theorem rots_eq {i j k : Nat} (hi : i < 32) (hj : j < 32) (hk : k < 32) (hi0 : 0 < i) (hj0 : 0 < j) (x : UInt32) : rots i j k x.toNat = (rr i x ^^^ rr j x ^^^ x >>> UInt32.ofNat k).toNat := by
  have hx : x.toNat < 4294967296 := x.toNat_lt
  have hs : x.toNat >>> k < 4294967296 := Nat.lt_of_le_of_lt (Nat.shiftRight_le _ _) hx
  apply bits_eq _ (UInt32.toNat_lt _)
  · intro b hb
    rw [toNat_bit]
    have e2 : (x >>> UInt32.ofNat k).toBitVec = x.toBitVec >>> k := shr_bv x hk
    simp only [UInt32.toBitVec_xor, BitVec.getLsbD_xor, rr_bit hi hi0 x hb, rr_bit hj hj0 x hb, e2, BitVec.getLsbD_ushiftRight]
    show Nat.testBit (((((x.toNat * 4294967297) >>> i ^^^ (x.toNat * 4294967297) >>> j)) % 2 ^ 32) ^^^ (x.toNat >>> k)) b = _
    rw [Nat.testBit_xor, Nat.testBit_mod_two_pow, Nat.testBit_shiftRight]
    simp only [hb, decide_true, Bool.true_and, Nat.testBit_xor]
    rfl
  · show ((((x.toNat * 4294967297) >>> i ^^^ (x.toNat * 4294967297) >>> j)) % 2 ^ 32) ^^^ (x.toNat >>> k) < 2 ^ 32
    exact Nat.xor_lt_two_pow (Nat.mod_lt _ (by omega)) hs

/-- The rounds behind one another, over a window. -/
def ugo : List UInt32 → V8 → List UInt32 → V8
  | [], v, _ => v
  | k :: ks, v, w => ugo ks (turn v k (w.getD 0 0)) (w.drop 1 ++ [nextW w])

theorem add_lit (a b : UInt32) : (a + b).toNat = (a.toNat + b.toNat) % 4294967296 := UInt32.toNat_add a b

theorem fgo_eq : ∀ (ks : List UInt32) (a b c d e f g o w0 w1 w2 w3 w4 w5 w6 w7 w8 w9 wa wb wc wd we wf : UInt32),
    fgo (ks.map UInt32.toNat) a.toNat b.toNat c.toNat d.toNat e.toNat f.toNat g.toNat o.toNat w0.toNat w1.toNat w2.toNat w3.toNat w4.toNat w5.toNat w6.toNat w7.toNat w8.toNat w9.toNat wa.toNat wb.toNat wc.toNat wd.toNat we.toNat wf.toNat =
      (ugo ks ⟨a, b, c, d, e, f, g, o⟩ [w0, w1, w2, w3, w4, w5, w6, w7, w8, w9, wa, wb, wc, wd, we, wf]).list.map UInt32.toNat
  | [], a, b, c, d, e, f, g, o, w0, w1, w2, w3, w4, w5, w6, w7, w8, w9, wa, wb, wc, wd, we, wf => rfl
  | k :: ks, a, b, c, d, e, f, g, o, w0, w1, w2, w3, w4, w5, w6, w7, w8, w9, wa, wb, wc, wd, we, wf => by
    rw [List.map_cons, fgo_cons]
    have h1 : (o.toNat + rot3 6 11 25 e.toNat + (g.toNat ^^^ (e.toNat &&& (f.toNat ^^^ g.toNat))) + k.toNat + w0.toNat + (rot3 2 13 22 a.toNat + ((a.toNat &&& b.toNat) ||| (c.toNat &&& (a.toNat ||| b.toNat))))) % 4294967296
        = (one ⟨a, b, c, d, e, f, g, o⟩ k w0 + two ⟨a, b, c, d, e, f, g, o⟩).toNat := by
      rw [rot3_eq (by omega) (by omega) (by omega) (by omega) (by omega) (by omega), rot3_eq (by omega) (by omega) (by omega) (by omega) (by omega) (by omega)]
      simp only [one, two, choice, most, add_lit, UInt32.toNat_and, UInt32.toNat_or, UInt32.toNat_xor]
      omega
    have h2 : (d.toNat + (o.toNat + rot3 6 11 25 e.toNat + (g.toNat ^^^ (e.toNat &&& (f.toNat ^^^ g.toNat))) + k.toNat + w0.toNat)) % 4294967296 = (d + one ⟨a, b, c, d, e, f, g, o⟩ k w0).toNat := by
      rw [rot3_eq (by omega) (by omega) (by omega) (by omega) (by omega) (by omega)]
      simp only [one, choice, add_lit, UInt32.toNat_and, UInt32.toNat_xor]
      omega
    have h3 : (w0.toNat + (rots 7 18 3 w1.toNat + w9.toNat + rots 17 19 10 we.toNat)) % 4294967296 = (w0 + (low w1 + w9 + high we)).toNat := by
      rw [rots_eq (by omega) (by omega) (by omega) (by omega) (by omega), rots_eq (by omega) (by omega) (by omega) (by omega) (by omega)]
      simp only [low, high, add_lit]
      omega
    rw [h1, h2, h3, fgo_eq ks]
    rfl

/-- A window on the numbers. -/
def win (w : List UInt32) (t : Nat) : List UInt32 := ((wseq w t).drop t)

theorem win_len {w : List UInt32} (hw : w.length = 16) (t : Nat) : (win w t).length = 16 := by simp [win, wseq_len, hw]

theorem win_succ {w : List UInt32} (hw : w.length = 16) (t : Nat) : (win w t).drop 1 ++ [nextW (win w t)] = win w (t + 1) := by
  have hl := wseq_len w t
  have e : nextW (win w t) = nextW (wseq w t) := by
    have g : ∀ i, i < 16 → (win w t).getD i 0 = (wseq w t).getD (t + i) 0 := fun i hi => by
      simp only [win, List.getD, List.getElem?_drop]
    have hwl := win_len hw t
    simp only [nextW, hwl, hl, hw]
    rw [g 0 (by omega), g 1 (by omega), g 9 (by omega), g 14 (by omega), show 16 + t - 16 = t + 0 by omega, show 16 + t - 15 = t + 1 by omega, show 16 + t - 7 = t + 9 by omega, show 16 + t - 2 = t + 14 by omega]
  rw [e]
  simp only [win, wseq]
  rw [List.drop_drop, List.drop_append_of_le_length (by omega), Nat.add_comm]

theorem ugo_eq {w : List UInt32} (hw : w.length = 16) (v : V8) : ∀ (d t : Nat), t + d = 64 → ugo (steps.drop t) (vseq w v t) (win w t) = vseq w v 64
  | 0, t, h => by
    have : t = 64 := by omega
    subst this
    rfl
  | d + 1, t, h => by
    have hl : t < steps.length := by rw [steps_len]; omega
    rw [List.drop_eq_getElem_cons hl]
    show ugo (steps.drop (t + 1)) (turn (vseq w v t) steps[t] ((win w t).getD 0 0)) ((win w t).drop 1 ++ [nextW (win w t)]) = _
    rw [win_succ hw]
    have e1 : steps[t] = steps.getD t 0 := by simp [List.getD, hl]
    have e2 : (win w t).getD 0 0 = (wseq w 48).getD t 0 := by
      simp only [win, List.getD, List.getElem?_drop, Nat.add_zero]
      by_cases h48 : t ≤ 48
      · have := wseq_get w t t (by omega) (48 - t)
        rw [show t + (48 - t) = 48 by omega] at this
        rw [this]
      · have := wseq_get w 48 t (by omega) (t - 48)
        rw [show 48 + (t - 48) = t by omega] at this
        rw [this]
    rw [e1, e2]
    exact ugo_eq hw v d (t + 1) (by omega)
end Am.Sha
end

/- SHA-256 over plain numbers: blocks, and the whole. -/
section
namespace Am.Sha
open Am Go Am.Ir
set_option maxRecDepth 100000

def fwords : List Nat → List Nat
  | a :: b :: c :: d :: r => force (Nat.add (Nat.mul (Nat.add (Nat.mul (Nat.add (Nat.mul a 256) b) 256) c) 256) d) fun w => w :: fwords r
  | _ => []

def faddL : List Nat → List Nat → List Nat
  | x :: l, y :: m => force (Nat.mod (Nat.add x y) 4294967296) fun z => z :: faddL l m
  | _, _ => []

def fsteps : List Nat := [1116352408, 1899447441, 3049323471, 3921009573, 961987163, 1508970993, 2453635748, 2870763221, 3624381080, 310598401, 607225278, 1426881987, 1925078388, 2162078206, 2614888103, 3248222580, 3835390401, 4022224774, 264347078, 604807628, 770255983, 1249150122, 1555081692, 1996064986, 2554220882, 2821834349, 2952996808, 3210313671, 3336571891, 3584528711, 113926993, 338241895, 666307205, 773529912, 1294757372, 1396182291, 1695183700, 1986661051, 2177026350, 2456956037, 2730485921, 2820302411, 3259730800, 3345764771, 3516065817, 3600352804, 4094571909, 275423344, 430227734, 506948616, 659060556, 883997877, 958139571, 1322822218, 1537002063, 1747873779, 1955562222, 2024104815, 2227730452, 2361852424, 2428436474, 2756734187, 3204031479, 3329325298]

noncomputable def fcomp (s b : List Nat) : List Nat :=
  match s, fwords b with
  | [a, b, c, d, e, f, g, o], [w0, w1, w2, w3, w4, w5, w6, w7, w8, w9, wa, wb, wc, wd, we, wf] => faddL [a, b, c, d, e, f, g, o] (fgo fsteps a b c d e f g o w0 w1 w2 w3 w4 w5 w6 w7 w8 w9 wa wb wc wd we wf)
  | _, _ => []

noncomputable def fblocks : Nat → List Nat → List Nat → List Nat
  | 0, s, _ => s
  | n + 1, s, P => fblocks n (fcomp s (P.take 64)) (P.drop 64)

def fbytes : List Nat → List UInt8
  | [] => []
  | x :: l => UInt8.ofNat (Nat.div x 16777216) :: UInt8.ofNat (Nat.div x 65536) :: UInt8.ofNat (Nat.div x 256) :: UInt8.ofNat (Nat.div x 1) :: fbytes l

def fstart : List Nat := [1779033703, 3144134277, 1013904242, 2773480762, 1359893119, 2600822924, 528734635, 1541459225]

noncomputable def fsha (M : List UInt8) : List UInt8 := fbytes (fblocks ((pad M).length / 64) fstart ((pad M).map UInt8.toNat))

theorem or_byte (x : UInt32) (b : UInt8) (hx : x.toNat < 16777216) : (x <<< UInt32.ofNat 8 ||| b.toUInt32).toNat = x.toNat * 256 + b.toNat := by
  have hb : b.toNat < 2 ^ 8 := b.toNat_lt
  rw [UInt32.toNat_or, UInt32.toNat_shiftLeft]
  have h8 : (UInt32.ofNat 8).toNat % 32 = 8 := rfl
  have hbb : b.toUInt32.toNat = b.toNat := by simp
  rw [h8, hbb, Nat.mod_eq_of_lt (by rw [Nat.shiftLeft_eq]; omega), ← Nat.shiftLeft_add_eq_or_of_lt hb, Nat.shiftLeft_eq]

theorem word_nat (b : List UInt8) (t : Nat) : (word b t).toNat = (((b.getD (4 * t) 0).toNat * 256 + (b.getD (4 * t + 1) 0).toNat) * 256 + (b.getD (4 * t + 2) 0).toNat) * 256 + (b.getD (4 * t + 3) 0).toNat := by
  have h0 := (b.getD (4 * t) 0).toNat_lt
  have h1 := (b.getD (4 * t + 1) 0).toNat_lt
  have h2 := (b.getD (4 * t + 2) 0).toNat_lt
  have e0 : ((0 : UInt32) <<< UInt32.ofNat 8 ||| (b.getD (4 * t) 0).toUInt32).toNat = (b.getD (4 * t) 0).toNat := by
    rw [or_byte _ _ (by simp)]; simp
  rw [word, ← join4]
  simp only [byte32]
  have e1 := or_byte ((0 : UInt32) <<< UInt32.ofNat 8 ||| (b.getD (4 * t) 0).toUInt32) (b.getD (4 * t + 1) 0) (by omega)
  have e2 := or_byte (((0 : UInt32) <<< UInt32.ofNat 8 ||| (b.getD (4 * t) 0).toUInt32) <<< UInt32.ofNat 8 ||| (b.getD (4 * t + 1) 0).toUInt32) (b.getD (4 * t + 2) 0) (by omega)
  rw [or_byte _ _ (by omega), e2, e1, e0]

theorem fwords_eq : ∀ (n : Nat) (b : List UInt8), b.length = 4 * n → fwords (b.map UInt8.toNat) = (List.range n).map fun t => (word b t).toNat
  | 0, b, h => by
    have : b = [] := List.length_eq_zero_iff.1 (by omega)
    subst this; rfl
  | n + 1, b, h => by
    match b, h with
    | a :: b :: c :: d :: r, h =>
      have hr : r.length = 4 * n := by simp at h; omega
      rw [List.map_cons, List.map_cons, List.map_cons, List.map_cons, fwords, force_eq, fwords_eq n r hr, List.range_succ_eq_map, List.map_cons, List.map_map]
      congr 1
      rw [word_nat]; rfl
    | [], h => simp at h
    | [_], h => simp at h; omega
    | [_, _], h => simp at h; omega
    | [_, _, _], h => simp at h; omega

theorem loadS_words {b : List UInt8} (hb : b.length = 64) : loadS b 64 = (List.range 16).map (word b) := by
  apply List.ext_getElem?
  intro i
  by_cases hi : i < 16
  · rw [load_word hb hi]; simp [hi]
  · rw [List.getElem?_eq_none (by rw [loadS_len]; omega), List.getElem?_eq_none (by simp; omega)]

theorem fsteps_eq : fsteps = steps.map UInt32.toNat := rfl

theorem fcomp_eq {b : List UInt8} (hb : b.length = 64) (v : V8) : fcomp (v.list.map UInt32.toNat) (b.map UInt8.toNat) = (takeS v b).list.map UInt32.toNat := by
  have hw := fwords_eq 16 b (by omega)
  have hl := loadS_words hb
  obtain ⟨a, b', c, d, e, f, g, o⟩ := v
  have h16 : ∀ {α : Type} (F : Nat → α), (List.range 16).map F = [F 0, F 1, F 2, F 3, F 4, F 5, F 6, F 7, F 8, F 9, F 10, F 11, F 12, F 13, F 14, F 15] := fun F => rfl
  rw [h16] at hw hl
  have hu := ugo_eq (w := loadS b 64) (loadS_len b 64) ⟨a, b', c, d, e, f, g, o⟩ 64 0 rfl
  rw [show win (loadS b 64) 0 = loadS b 64 from rfl, show vseq (loadS b 64) ⟨a, b', c, d, e, f, g, o⟩ 0 = ⟨a, b', c, d, e, f, g, o⟩ from rfl, List.drop_zero] at hu
  have hgo := fgo_eq steps a b' c d e f g o (word b 0) (word b 1) (word b 2) (word b 3) (word b 4) (word b 5) (word b 6) (word b 7) (word b 8) (word b 9) (word b 10) (word b 11) (word b 12) (word b 13) (word b 14) (word b 15)
  rw [← hl, hu, ← fsteps_eq] at hgo
  have hsl : (V8.list ⟨a, b', c, d, e, f, g, o⟩).map UInt32.toNat = [a.toNat, b'.toNat, c.toNat, d.toNat, e.toNat, f.toNat, g.toNat, o.toNat] := rfl
  rw [hsl]
  unfold fcomp
  simp only [hw, hgo]
  have ht : takeS ⟨a, b', c, d, e, f, g, o⟩ b = V8.plus ⟨a, b', c, d, e, f, g, o⟩ (vseq (loadS b 64) ⟨a, b', c, d, e, f, g, o⟩ 64) := rfl
  rw [ht]
  generalize vseq (loadS b 64) ⟨a, b', c, d, e, f, g, o⟩ 64 = V
  obtain ⟨a2, b2, c2, d2, e2, f2, g2, o2⟩ := V
  simp only [V8.list, V8.plus, List.map_cons, List.map_nil, faddL, force_eq, add_lit]
  rfl

theorem fblocks_eq (P : List UInt8) : ∀ (n i : Nat), (i + n) * 64 ≤ P.length → fblocks n ((stateN P i).list.map UInt32.toNat) ((P.drop (i * 64)).map UInt8.toNat) = (stateN P (i + n)).list.map UInt32.toNat
  | 0, i, _ => rfl
  | n + 1, i, h => by
    rw [fblocks, ← List.map_take, ← List.map_drop, List.drop_drop]
    have hb : ((P.drop (i * 64)).take 64).length = 64 := by simp; omega
    rw [fcomp_eq hb]
    have := fblocks_eq P n (i + 1) (by omega)
    rw [show i + (n + 1) = i + 1 + n by omega, ← this, show (i + 1) * 64 = i * 64 + 64 by omega]
    rfl

theorem fbytes_eq (v : V8) : fbytes (v.list.map UInt32.toNat) = digest v := by
  obtain ⟨a, b, c, d, e, f, g, o⟩ := v
  rfl

theorem fsha_eq (M : List UInt8) : fsha M = sha M := by
  have h := fblocks_eq (pad M) ((pad M).length / 64) 0 (by omega)
  rw [Nat.zero_mul, List.drop_zero, Nat.zero_add] at h
  rw [fsha, sha, shaN, ← fbytes_eq, ← h]
  rfl
end Am.Sha
end

