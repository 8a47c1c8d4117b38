import Derived.Test.YtffhiphcmohjdaaGreatDoorAmIrDigest
import Derived.Test.YtffhiphcmohjdaaGreatDoorAmRefK
import Derived.Test.YtffhiphcmohjdaaGreatDoorAmBits
import Derived.Test.YtffhiphcmohjdaaGreatDoorAmKeep
set_option linter.all false
/- SHA-256, as a law over numbers of 32 bits. -/
section
namespace Am.Sha
open Am Go Am.Ir
set_option maxRecDepth 100000

/-- Turned to the right. -/
def rr (n : Nat) (x : UInt32) : UInt32 := x <<< UInt32.ofNat (32 - n) ||| x >>> UInt32.ofNat n

def low (x : UInt32) : UInt32 := rr 7 x ^^^ rr 18 x ^^^ x >>> UInt32.ofNat 3
def high (x : UInt32) : UInt32 := rr 17 x ^^^ rr 19 x ^^^ x >>> UInt32.ofNat 10

/-- The next number of a block. -/
def nextW (l : List UInt32) : UInt32 := l.getD (l.length - 16) 0 + (low (l.getD (l.length - 15) 0) + l.getD (l.length - 7) 0 + high (l.getD (l.length - 2) 0))

def wseq (w : List UInt32) : Nat → List UInt32
  | 0 => w
  | k + 1 => wseq w k ++ [nextW (wseq w k)]

theorem wseq_len (w : List UInt32) : ∀ k, (wseq w k).length = w.length + k
  | 0 => rfl
  | k + 1 => by simp only [wseq, List.length_append, wseq_len w k, List.length_singleton]; omega

theorem wseq_get (w : List UInt32) : ∀ k i, i < w.length + k → ∀ d, (wseq w (k + d))[i]? = (wseq w k)[i]?
  | k, i, h, 0 => rfl
  | k, i, h, d + 1 => by
    rw [← wseq_get w k i h d]
    show (wseq w (k + d) ++ _)[i]? = _
    rw [List.getElem?_append_left (by rw [wseq_len]; omega)]

/-- What goes round. -/
structure V8 where
  a : UInt32
  b : UInt32
  c : UInt32
  d : UInt32
  e : UInt32
  f : UInt32
  g : UInt32
  o : UInt32

def choice (e f g : UInt32) : UInt32 := g ^^^ (e &&& (f ^^^ g))
def most (a b c : UInt32) : UInt32 := (a &&& b) ||| (c &&& (a ||| b))
def one (v : V8) (k w : UInt32) : UInt32 := v.o + (rr 6 v.e ^^^ rr 11 v.e ^^^ rr 25 v.e) + choice v.e v.f v.g + k + w
def two (v : V8) : UInt32 := (rr 2 v.a ^^^ rr 13 v.a ^^^ rr 22 v.a) + most v.a v.b v.c
def turn (v : V8) (k w : UInt32) : V8 := ⟨one v k w + two v, v.a, v.b, v.c, v.d + one v k w, v.e, v.f, v.g⟩

theorem bit_eq {a b : UInt32} (h : ∀ i, i < 32 → a.toBitVec.getLsbD i = b.toBitVec.getLsbD i) : a = b := by
  apply UInt32.toBitVec_inj.1
  exact BitVec.eq_of_getLsbD_eq (fun i hi => h i hi)

theorem choice_ref (e f g : UInt32) : (e &&& f) ^^^ ((e ^^^ 4294967295) &&& g) = choice e f g := by
  apply bit_eq
  intro i hi
  have h1 : (4294967295 : UInt32).toBitVec = BitVec.allOnes 32 := rfl
  simp only [choice, UInt32.toBitVec_xor, UInt32.toBitVec_and, h1, BitVec.getLsbD_xor, BitVec.getLsbD_and, BitVec.getLsbD_allOnes, hi, decide_true]
  cases e.toBitVec.getLsbD i <;> cases f.toBitVec.getLsbD i <;> cases g.toBitVec.getLsbD i <;> rfl

theorem most_ref (a b c : UInt32) : (a &&& b) ^^^ (a &&& c) ^^^ (b &&& c) = most a b c := by
  apply bit_eq
  intro i hi
  simp only [most, UInt32.toBitVec_xor, UInt32.toBitVec_and, UInt32.toBitVec_or, BitVec.getLsbD_xor, BitVec.getLsbD_and, BitVec.getLsbD_or]
  cases a.toBitVec.getLsbD i <;> cases b.toBitVec.getLsbD i <;> cases c.toBitVec.getLsbD i <;> rfl

noncomputable def xRot : Model := exM (orc []) bits_RotateLeft32 10

theorem rot_ok {k : Nat} (hk : k < 32) (hk0 : 0 < k) (hand : binA .and (.int .u64 (IntKind.u64.wrap (-(k : Int)))) (.int .u64 31) = some (.int .u64 ((32 - k : Nat) : Int)))
    (hsub : binA .sub (.int .u64 32) (.int .u64 ((32 - k : Nat) : Int)) = some (.int .u64 (k : Int))) (x : UInt32) (S : St) : xRot [u32 x, .int .i64 (-(k : Int))] S = some (u32 (rr k x), S) := by
  have h1 := shl_u32 x .u64 (32 - k) (by omega)
  have h2 := shr_u32 x .u64 k hk
  have h3 := or_u32 (x <<< UInt32.ofNat (32 - k)) (x >>> UInt32.ofNat k)
  obtain ⟨y, hy⟩ : ∃ y, u32 x = y := ⟨_, rfl⟩
  rw [hy] at h1 h2 ⊢
  obtain ⟨m, hm⟩ : ∃ m : Int, ((32 - k : Nat) : Int) = m := ⟨_, rfl⟩
  rw [hm] at hand hsub h1
  simp [xRot, bits_RotateLeft32, exM, orc, orcD, evF, evC, evOps, evOper, evAny, evOp, evCall, putR, putA, Fr.ev, Fr.of, Fr.get, Fr.set, stable, junkA, junkL, resultsA, resA, same, hand, hsub, h1, h2, h3, rr]
end Am.Sha
end

/- SHA-256: the wheel. -/
section
namespace Am.Sha
open Am Go Am.Ir
set_option maxRecDepth 100000

def ucells (l : List UInt32) : List AVal := l.map u32
theorem ucells_len (l : List UInt32) : (ucells l).length = l.length := by simp [ucells]
theorem ucells_get {l : List UInt32} {i : Nat} {x : UInt32} (h : l[i]? = some x) : (ucells l)[i]? = some (u32 x) := by simp [ucells, h]
theorem ucells_set (l : List UInt32) (i : Nat) (x : UInt32) (h : i < l.length) : splice (ucells l) i [u32 x] = ucells (l.set i x) := by
  have : splice (ucells l) i [u32 x] = (ucells l).set i (u32 x) := by
    rw [List.set_eq_take_append_cons_drop, if_pos (by rw [ucells_len]; exact h)]; simp [splice]
  rw [this]; simp [ucells, List.map_set]

noncomputable def xNext : Model := exM (orc [xRot]) sha_wheel_next 10

theorem partA_none (off : Nat) (cs : List AVal) : partA none off cs = cs[off]? := rfl

theorem rem16 (t : Nat) : binA .rem (.int .i64 (t : Int)) (.int .i64 16) = some (.int .i64 ((t % 16 : Nat) : Int)) := by
  have h : ((t : Int)).tmod 16 = ((t % 16 : Nat) : Int) := by rw [Int.tmod_eq_emod_of_nonneg (by omega)]; rfl
  simp [binA, intBin, h]

theorem next_low {S : St} {r t : Nat} {c : List UInt32} {x : UInt32} (ht : t < 16) (hr : S[r]? = some (.live 0 (ucells c))) (hx : c[t]? = some x) : xNext [.ptr r 0 0, .int .i64 (t : Int)] S = some (u32 x, S) := by
  have h1 := rem16 t
  rw [Nat.mod_eq_of_lt ht] at h1
  have h2 : binA .geq (.int .i64 (t : Int)) (.int .i64 16) = some (.bool false) := by simp [binA, intBin]; omega
  have h3 : iaddrAA 1 16 (.ptr r 0 0) (.int .i64 (t : Int)) = some (.ptr r 0 t) := by
    have : (t : Int) < 16 := by omega
    simp [iaddrAA, this]
  have h4 := ucells_get hx
  have h5 : ∀ T : St, (u32 x) = u32 x := fun _ => rfl
  obtain ⟨y, hy⟩ : ∃ y, u32 x = y := ⟨_, rfl⟩
  rw [hy] at h4 ⊢
  simp [xNext, sha_wheel_next, exM, orc, orcD, evF, evC, evOps, evOper, evAny, evOp, evCall, putR, putA, Fr.ev, Fr.of, Fr.get, Fr.set, stable, junkA, junkL, resultsA, resA, same, h1, h2, h3, loadA, partA_none, hr, h4]

theorem next_high {S : St} {r t : Nat} {c : List UInt32} {x16 x15 x7 x2 : UInt32} (ht : 16 ≤ t) (ht2 : t < 64) (hc : c.length = 16) (hr : S[r]? = some (.live 0 (ucells c)))
    (h16 : c[t % 16]? = some x16) (h15 : c[(t + 1) % 16]? = some x15) (h7 : c[(t + 9) % 16]? = some x7) (h2 : c[(t + 14) % 16]? = some x2) :
    xNext [.ptr r 0 0, .int .i64 (t : Int)] S = some (u32 (x16 + (low x15 + x7 + high x2)), S.set r (.live 0 (ucells (c.set (t % 16) (x16 + (low x15 + x7 + high x2)))))) := by
  have hge : binA .geq (.int .i64 (t : Int)) (.int .i64 16) = some (.bool true) := by simp [binA, intBin]; omega
  have ad : ∀ (k : Nat) (z : Int), k < 100 → z = (k : Int) → binA .add (.int .i64 (t : Int)) (.int .i64 z) = some (.int .i64 ((t + k : Nat) : Int)) := fun k z hk hz => by
    have : IntKind.i64.wrap ((t : Int) + z) = ((t + k : Nat) : Int) := by rw [hz, wrap64 (by omega) (by omega)]; simp
    simp [binA, intBin, this]
  have a1 := ad 1 1 (by omega) rfl
  have a9 := ad 9 9 (by omega) rfl
  have a14 := ad 14 14 (by omega) rfl
  have r0 := rem16 t
  have r1 := rem16 (t + 1)
  have r9 := rem16 (t + 9)
  have r14 := rem16 (t + 14)
  have ia : ∀ k : Nat, iaddrAA 1 16 (.ptr r 0 0) (.int .i64 ((k % 16 : Nat) : Int)) = some (.ptr r 0 (k % 16)) := fun k => by
    have h0 : (0 : Int) ≤ ((k % 16 : Nat) : Int) ∧ ((k % 16 : Nat) : Int) < (16 : Nat) := by omega
    simp only [iaddrAA]
    rw [if_pos h0, Int.toNat_natCast, Nat.zero_add, Nat.mul_one]
  have i0 := ia t
  have i1 := ia (t + 1)
  have i9 := ia (t + 9)
  have i14 := ia (t + 14)
  have g0 := ucells_get h16
  have g1 := ucells_get h15
  have g9 := ucells_get h7
  have g14 := ucells_get h2
  have k7 : ∀ S, xRot [u32 x15, .int .i64 (-7)] S = some (u32 (rr 7 x15), S) := fun S => rot_ok (k := 7) (by omega) (by omega) (by rfl) (by rfl) x15 S
  have k18 : ∀ S, xRot [u32 x15, .int .i64 (-18)] S = some (u32 (rr 18 x15), S) := fun S => rot_ok (k := 18) (by omega) (by omega) (by rfl) (by rfl) x15 S
  have k17 : ∀ S, xRot [u32 x2, .int .i64 (-17)] S = some (u32 (rr 17 x2), S) := fun S => rot_ok (k := 17) (by omega) (by omega) (by rfl) (by rfl) x2 S
  have k19 : ∀ S, xRot [u32 x2, .int .i64 (-19)] S = some (u32 (rr 19 x2), S) := fun S => rot_ok (k := 19) (by omega) (by omega) (by rfl) (by rfl) x2 S
  have s3 : binA .shr (u32 x15) (.int .u64 3) = some (u32 (x15 >>> UInt32.ofNat 3)) := shr_u32 x15 .u64 3 (by omega)
  have s10 : binA .shr (u32 x2) (.int .u64 10) = some (u32 (x2 >>> UInt32.ofNat 10)) := shr_u32 x2 .u64 10 (by omega)
  have b1 := xor_u32 (rr 7 x15) (rr 18 x15)
  have b2 := xor_u32 (rr 7 x15 ^^^ rr 18 x15) (x15 >>> UInt32.ofNat 3)
  have b3 := xor_u32 (rr 17 x2) (rr 19 x2)
  have b4 := xor_u32 (rr 17 x2 ^^^ rr 19 x2) (x2 >>> UInt32.ofNat 10)
  have c1 := add_u32 (low x15) x7
  have c2 := add_u32 (low x15 + x7) (high x2)
  have c3 := add_u32 x16 (low x15 + x7 + high x2)
  have hlt : t % 16 < c.length := by omega
  have st := ucells_set c (t % 16) (x16 + (low x15 + x7 + high x2)) hlt
  have hln : t % 16 + 1 ≤ (ucells c).length := by rw [ucells_len]; omega
  have hlt0 := hlt
  have gn : (ucells (c.set (t % 16) (x16 + (low x15 + x7 + high x2))))[t % 16]? = some (u32 (x16 + (low x15 + x7 + high x2))) := ucells_get (by simp [hlt])
  generalize hm0 : t % 16 = m0 at *
  generalize hm1 : (t + 1) % 16 = m1 at *
  generalize hm9 : (t + 9) % 16 = m9 at *
  generalize hm14 : (t + 14) % 16 = m14 at *
  generalize hz0 : ((t : Nat) : Int) = z0 at *
  generalize hz1 : ((t + 1 : Nat) : Int) = z1 at *
  generalize hz9 : ((t + 9 : Nat) : Int) = z9 at *
  generalize hz14 : ((t + 14 : Nat) : Int) = z14 at *
  have c1' : binA .add (u32 (rr 7 x15 ^^^ rr 18 x15 ^^^ x15 >>> UInt32.ofNat 3)) (u32 x7) = some (u32 (low x15 + x7)) := c1
  have c2' : binA .add (u32 (low x15 + x7)) (u32 (rr 17 x2 ^^^ rr 19 x2 ^^^ x2 >>> UInt32.ofNat 10)) = some (u32 (low x15 + x7 + high x2)) := c2
  generalize hy : x16 + (low x15 + x7 + high x2) = y at *
  have stA : storeA 1 (.ptr r 0 m0) (u32 y) S = some (S.set r (.live 0 (ucells (c.set m0 y)))) := by
    have hc1 : cells? (u32 y) = some [u32 y] := rfl
    simp [storeA, hc1, hr, hln, st]
  have hr' : (S.set r (.live 0 (ucells (c.set m0 y))))[r]? = some (.live 0 (ucells (c.set m0 y))) := by
    have hrl := (List.getElem?_eq_some_iff.1 hr).1
    simp [hrl]
  generalize hS' : S.set r (.live 0 (ucells (c.set m0 y))) = S' at *
  generalize rr 7 x15 ^^^ rr 18 x15 ^^^ x15 >>> UInt32.ofNat 3 = q1 at *
  generalize rr 7 x15 ^^^ rr 18 x15 = q2 at *
  generalize rr 17 x2 ^^^ rr 19 x2 ^^^ x2 >>> UInt32.ofNat 10 = q3 at *
  generalize rr 17 x2 ^^^ rr 19 x2 = q4 at *
  generalize x15 >>> UInt32.ofNat 3 = q5 at *
  generalize x2 >>> UInt32.ofNat 10 = q6 at *
  simp [xNext, sha_wheel_next, exM, orc, orcD, evF, evC, evOps, evOper, evAny, evOp, evCall, putR, putA, Fr.ev, Fr.of, Fr.get, Fr.set, stable, junkA, junkL, resultsA, resA, same, r0, r1, r9, r14, hge, a1, a9, a14, i0, i1, i9, i14, loadA, partA_none, hr, hr', g0, g1, g9, g14, gn, k7, k18, k17, k19, s3, s10, b1, b2, b3, b4, c1', c2', c3, stA]
end Am.Sha
end

/- SHA-256: a block's first numbers. -/
section
namespace Am.Sha
open Am Go Am.Ir
set_option maxRecDepth 100000

def zero16 : List UInt32 := List.replicate 16 0
theorem zero16_len : zero16.length = 16 := List.length_replicate

/-- A byte more of a block's numbers. -/
def put (w : List UInt32) (i : Nat) (x : UInt8) : List UInt32 := w.set (i / 4) ((w.getD (i / 4) 0) <<< UInt32.ofNat 8 ||| x.toUInt32)

def loadS (b : List UInt8) (j : Nat) : List UInt32 := (b.take j).zipIdx.foldl (fun w p => put w p.2 p.1) zero16

theorem loadS_succ (b : List UInt8) {j : Nat} {x : UInt8} (h : b[j]? = some x) : loadS b (j + 1) = put (loadS b j) j x := by
  have hl := (List.getElem?_eq_some_iff.1 h).1
  have hlen : (b.take j).length = j := by simp; omega
  have ht : b.take (j + 1) = b.take j ++ [x] := by rw [List.take_add_one, h]; rfl
  simp only [loadS, ht, List.zipIdx_append, List.foldl_append, hlen, Nat.zero_add]
  rfl

theorem loadS_len (b : List UInt8) (j : Nat) : (loadS b j).length = 16 := by
  have : ∀ (l : List (UInt8 × Nat)) (w : List UInt32), (l.foldl (fun w p => put w p.2 p.1) w).length = w.length := by
    intro l
    induction l with
    | nil => intro w; rfl
    | cons p l ih => intro w; rw [List.foldl_cons, ih]; simp [put]
  simp only [loadS, this, zero16_len]

structure LdF (f : Fr) (b : List UInt8) (j : Nat) : Prop where
  s2 : f.get 2 = .ptr 1 0 0
  s3 : f.get 3 = .ptr 2 0 0
  s6 : f.get 6 = .agg (bcells b)
  s7 : f.get 7 = .int .i64 (j : Int)

theorem quo4 (t : Nat) (h : t < 1000) : binA .quo (.int .i64 (t : Int)) (.int .i64 4) = some (.int .i64 ((t / 4 : Nat) : Int)) := by
  have h1 : ((t : Int)).tdiv 4 = ((t / 4 : Nat) : Int) := by rw [Int.tdiv_eq_ediv_of_nonneg (by omega)]; rfl
  have h2 : IntKind.i64.wrap ((t / 4 : Nat) : Int) = ((t / 4 : Nat) : Int) := wrap64 (by omega) (by omega)
  simp only [binA, intBin]
  rw [if_neg (by simp), if_pos trivial]
  simp only [h1, h2]
  simp

theorem load_round {O : Orc} {k : Nat} {f : Fr} {b : List UInt8} {j : Nat} {B0 B1 : ABlock} {w : List UInt32} (hb : b.length = 64) (hj : j < 64) {x : UInt8} (hx : b[j]? = some x) (hw : w.length = 16) (hf : LdF f b j) :
    Post (evC O k sha_load_l0 f [B0, B1, .live 0 (ucells w)]) fun e f' T => e = .normal ∧ T = [B0, B1, .live 0 (ucells (put w j x))] ∧ LdF f' b (j + 1) := by
  have hlss : binA .lss (.int .i64 (j : Int)) (.int .i64 64) = some (.bool true) := by simp [binA, intBin]; omega
  have hadd : binA .add (.int .i64 (j : Int)) (.int .i64 1) = some (.int .i64 ((j : Int) + 1)) := by
    have h1 : IntKind.i64.wrap ((j : Int) + 1) = (j : Int) + 1 := wrap64 (by omega) (by omega)
    simp [binA, intBin, h1]
  have hq := quo4 j (by omega)
  have ia : iaddrAA 1 16 (.ptr 2 0 0) (.int .i64 ((j / 4 : Nat) : Int)) = some (.ptr 2 0 (j / 4)) := by
    have h0 : (0 : Int) ≤ ((j / 4 : Nat) : Int) ∧ ((j / 4 : Nat) : Int) < (16 : Nat) := by omega
    simp only [iaddrAA]
    rw [if_pos h0, Int.toNat_natCast, Nat.zero_add, Nat.mul_one]
  have hlt : j / 4 < w.length := by omega
  have hg : (ucells w)[j / 4]? = some (u32 (w.getD (j / 4) 0)) := ucells_get (by simp [List.getD, hlt])
  have hsh : binA .shl (u32 (w.getD (j / 4) 0)) (.int .u64 8) = some (u32 (w.getD (j / 4) 0 <<< UInt32.ofNat 8)) := shl_u32 _ .u64 8 (by omega)
  have hor := or_u32 (w.getD (j / 4) 0 <<< UInt32.ofNat 8) x.toUInt32
  have hcv : AVal.int .u32 (IntKind.u32.wrap (x.toNat : Int)) = u32 x.toUInt32 := by
    have := x.toNat_lt
    have h1 : IntKind.u32.wrap (x.toNat : Int) = (x.toNat : Int) := wrapU32 (by omega)
    rw [h1]; rfl
  have hst := ucells_set w (j / 4) (w.getD (j / 4) 0 <<< UInt32.ofNat 8 ||| x.toUInt32) hlt
  have hln : j / 4 + 1 ≤ (ucells w).length := by rw [ucells_len]; omega
  have hpt : put w j x = w.set (j / 4) (w.getD (j / 4) 0 <<< UInt32.ofNat 8 ||| x.toUInt32) := rfl
  have hbx : (bcells b)[j]? = some (.int .u8 (x.toNat : Int)) := by simp [bcells, hx]
  have hj64 : (j : Int) < 64 := by omega
  rw [hpt]
  generalize j / 4 = i at *
  generalize w.getD i 0 <<< UInt32.ofNat 8 ||| x.toUInt32 = y at *
  generalize w.getD i 0 <<< UInt32.ofNat 8 = y1 at *
  generalize w.getD i 0 = y2 at *
  have hcu : cells? (u32 y) = some [u32 y] := rfl
  suffices hmid : Post (evC O k sha_load_l0 f [B0, B1, .live 0 (ucells w)]) (fun e f' T => e = .normal ∧ T = [B0, B1, .live 0 (ucells (w.set i y))] ∧ f'.get 2 = .ptr 1 0 0 ∧ f'.get 3 = .ptr 2 0 0 ∧ f'.get 6 = .agg (bcells b) ∧ f'.get 7 = .int .i64 ((j : Int) + 1)) by
    refine hmid.mono ?_
    rintro e f' T ⟨h1, h2, h3, h4, h5, h6⟩
    exact ⟨h1, h2, ⟨h3, h4, h5, by rw [h6]; simp⟩⟩
  simp [sha_load_l0, exM, orc, orcD, evF, evC, evOps, evOper, evAny, evOp, evCall, putR, putA, Fr.ev, Fr.of, Fr.get, Fr.set, stable, junkA, junkL, resultsA, resA, same, Fr.get_set, hf.s2, hf.s3, hf.s6, hf.s7, hlss, hadd, hq, ia, hg, hsh, hor, hcv, hcu, hst, hln, hbx, hj64, loadA, storeA, partA_none, Post_some]

theorem flat_ucells (l : List UInt32) : ∀ v ∈ ucells l, flat v = true := by
  intro v hv
  obtain ⟨b, _, rfl⟩ := List.mem_map.1 hv
  rfl

theorem load_loop {O : Orc} {f : Fr} {b : List UInt8} {B0 B1 : ABlock} (hb : b.length = 64) (hf : LdF f b 0) :
    Post (evC O 1000 sha_load_s1 f [B0, B1, .live 0 (ucells zero16)]) fun e f' T => e = .normal ∧ T = [B0, B1, .live 0 (ucells (loadS b 64))] ∧ f'.get 2 = .ptr 1 0 0 ∧ f'.get 3 = .ptr 2 0 0 := by
  obtain ⟨f', S', h1, h2⟩ := loop_post (O := O) (k := 1000) (id := 0) (b := sha_load_l0) (I := fun j f T => T = [B0, B1, .live 0 (ucells (loadS b j))] ∧ LdF f b j)
    (Q := fun f' T => T = [B0, B1, .live 0 (ucells (loadS b 64))] ∧ f'.get 2 = .ptr 1 0 0 ∧ f'.get 3 = .ptr 2 0 0) 64 (by omega)
    (by
      rintro j hj f T ⟨rfl, g2⟩
      obtain ⟨x, hx⟩ : ∃ x, b[j]? = some x := ⟨_, List.getElem?_eq_getElem (by omega)⟩
      refine (load_round hb hj hx (loadS_len b j) g2).mono ?_
      rintro e f' S' ⟨rfl, k1, k2⟩
      exact ⟨rfl, by rw [loadS_succ b hx]; exact k1, k2⟩)
    (by
      rintro f T ⟨rfl, g2⟩
      have g7 : f.get 7 = .int .i64 64 := g2.s7
      have hlss : binA .lss (.int .i64 64) (.int .i64 64) = some (.bool false) := rfl
      simp [sha_load_l0, exM, orc, orcD, evF, evC, evOps, evOper, evAny, evOp, evCall, putR, putA, Fr.ev, Fr.of, Fr.get, Fr.set, stable, junkA, junkL, resultsA, resA, same, Fr.get_set, g2.s2, g2.s3, g2.s6, g7, hlss, Post_some])
    (f := f) (S := [B0, B1, .live 0 (ucells zero16)]) ⟨rfl, hf⟩
  rw [show sha_load_s1 = .block 0 (.loop sha_load_l0) from rfl, h1]
  exact Post.of rfl ⟨rfl, h2⟩

noncomputable def xLoad : Model := exM (orc []) sha_load 1000
noncomputable def mLoad : Model := pureM 2 xLoad

theorem load_ok {b : List UInt8} (hb : b.length = 64) (S : St) : mLoad [.agg (bcells b)] S = some (.agg (ucells (loadS b 64)), S) := by
  have hz : ucells zero16 = [.int .u32 0, .int .u32 0, .int .u32 0, .int .u32 0, .int .u32 0, .int .u32 0, .int .u32 0, .int .u32 0, .int .u32 0, .int .u32 0, .int .u32 0, .int .u32 0, .int .u32 0, .int .u32 0, .int .u32 0, .int .u32 0] := rfl
  have hl := loadS_len b 64
  have hp64 : partA (some 64) 0 (bcells b) = some (.agg (bcells b)) := by
    simp [partA, bcells_len, hb]
    rw [List.take_of_length_le (by rw [bcells_len]; omega)]
  have hp16 : partA (some 16) 0 (ucells (loadS b 64)) = some (.agg (ucells (loadS b 64))) := by
    simp [partA, ucells_len, hl]
    rw [List.take_of_length_le (by rw [ucells_len]; omega)]
  have hT : ∃ B0 B1 B2, xLoad [.agg (bcells b)] [] = some (.agg (ucells (loadS b 64)), [B0, B1, B2]) := by
    suffices hs : Post (evC (orc []) 1000 sha_load.body (Fr.of [.agg (bcells b)]) []) (fun e f S1 => (e = .normal ∨ e = .ret) ∧ resultsA f S1 sha_load.results = some (.agg (ucells (loadS b 64))) ∧ ∃ B0 B1 B2, S1 = [B0, B1, B2]) by
      obtain ⟨e, f, S1, g1, g2, g3, B0, B1, B2, rfl⟩ := hs.ex
      refine ⟨B0, B1, B2, ?_⟩
      unfold xLoad exM
      refine evF_post rfl rfl ?_
      exact Post.of g1 ⟨g2, g3, rfl⟩
    simp only [sha_load, sha_load_t2, Post_seq]
    simp [exM, orc, orcD, evF, evC, evOps, evOper, evAny, evOp, evCall, putR, putA, Fr.ev, Fr.of, Fr.get, Fr.set, stable, junkA, junkL, resultsA, resA, same, cells_agg, loadA, hp64, Post_some]
    rw [← hz]
    refine (load_loop hb ⟨rfl, rfl, rfl, rfl⟩).mono ?_
    rintro e f T ⟨rfl, rfl, k1, k2⟩
    have hst : ∀ B0, storeA 16 (.ptr 1 0 0) (.agg (ucells (loadS b 64))) [B0, .live 0 (ucells zero16), .live 0 (ucells (loadS b 64))] = some [B0, .live 0 (ucells (loadS b 64)), .live 0 (ucells (loadS b 64))] := fun B0 => by
      have hsp : splice (ucells zero16) 0 (ucells (loadS b 64)) = ucells (loadS b 64) := by
        have hd : (ucells zero16).drop (ucells (loadS b 64)).length = [] := List.drop_of_length_le (by rw [ucells_len, ucells_len, zero16_len, hl]; exact Nat.le_refl _)
        simp only [splice, Nat.zero_add, hd, List.take_zero, List.nil_append, List.append_nil]
      simp [storeA, cells_agg, ucells_len, hl, hsp, zero16_len]
    simp [exM, orc, orcD, evF, evC, evOps, evOper, evAny, evOp, evCall, putR, putA, Fr.ev, Fr.of, Fr.get, Fr.set, stable, junkA, junkL, resultsA, resA, same, Fr.get_set, k1, k2, loadA, hp16, hst, Post_some]
  obtain ⟨B0, B1, B2, hT⟩ := hT
  refine pureM_run (by simp only [closedL, closedV, closed_bcells]; rfl) hT ?_
  rw [deep_agg, flats_deep _ _ _ (flat_ucells _)]; rfl
end Am.Sha
end

/- SHA-256: the steps' numbers, the round. -/
section
namespace Am.Sha
open Am Go Am.Ir
set_option maxRecDepth 100000

def steps : List UInt32 := [1116352408, 1899447441, 3049323471, 3921009573, 961987163, 1508970993, 2453635748, 2870763221, 3624381080, 310598401, 607225278, 1426881987, 1925078388, 2162078206, 2614888103, 3248222580, 3835390401, 4022224774, 264347078, 604807628, 770255983, 1249150122, 1555081692, 1996064986, 2554220882, 2821834349, 2952996808, 3210313671, 3336571891, 3584528711, 113926993, 338241895, 666307205, 773529912, 1294757372, 1396182291, 1695183700, 1986661051, 2177026350, 2456956037, 2730485921, 2820302411, 3259730800, 3345764771, 3516065817, 3600352804, 4094571909, 275423344, 430227734, 506948616, 659060556, 883997877, 958139571, 1322822218, 1537002063, 1747873779, 1955562222, 2024104815, 2227730452, 2361852424, 2428436474, 2756734187, 3204031479, 3329325298]
def start : List UInt32 := [1779033703, 3144134277, 1013904242, 2773480762, 1359893119, 2600822924, 528734635, 1541459225]

noncomputable def xSteps : Model := exM (orc []) sha_steps 10
noncomputable def mSteps : Model := pureM 2 xSteps

theorem steps_run : ∃ T, xSteps [] [] = some (.agg (ucells steps), T) := ⟨_, by rfl⟩

theorem steps_ok (S : St) : mSteps [] S = some (.agg (ucells steps), S) := by
  obtain ⟨T, hT⟩ := steps_run
  refine pureM_run rfl hT ?_
  rw [deep_agg, flats_deep _ _ _ (flat_ucells _)]; rfl
end Am.Sha
end

/- SHA-256: the rounds of a block. -/
section
namespace Am.Sha
open Am Go Am.Ir
set_option maxRecDepth 100000

noncomputable def oTake : Orc := orc [mLoad, mSteps, xRot, xNext]

/-- The slots of the rounds. -/
structure TkF (f : Fr) (h : AVal) (rw' rk : Nat) (v : V8) (t : Nat) : Prop where
  s0 : f.get 0 = h
  s2 : f.get 2 = .ptr rw' 0 0
  s3 : f.get 3 = .ptr rk 0 0
  s4 : f.get 4 = u32 v.a
  s5 : f.get 5 = u32 v.b
  s6 : f.get 6 = u32 v.c
  s7 : f.get 7 = u32 v.d
  s8 : f.get 8 = u32 v.e
  s9 : f.get 9 = u32 v.f
  s10 : f.get 10 = u32 v.g
  s11 : f.get 11 = u32 v.o
  s65 : f.get 65 = .int .i64 (t : Int)

theorem rot_neg (k : Nat) (z : Int) (hz : z = -(k : Int)) (hk : k < 32) (hk0 : 0 < k) (hand : binA .and (.int .u64 (IntKind.u64.wrap (-(k : Int)))) (.int .u64 31) = some (.int .u64 ((32 - k : Nat) : Int)))
    (hsub : binA .sub (.int .u64 32) (.int .u64 ((32 - k : Nat) : Int)) = some (.int .u64 (k : Int))) (x : UInt32) (S : St) : xRot [u32 x, .int .i64 z] S = some (u32 (rr k x), S) := by
  rw [hz]; exact rot_ok hk hk0 hand hsub x S

theorem rot6 (x : UInt32) (S : St) : xRot [u32 x, .int .i64 (-6)] S = some (u32 (rr 6 x), S) := rot_neg 6 _ rfl (by omega) (by omega) (by rfl) (by rfl) x S
theorem rot11 (x : UInt32) (S : St) : xRot [u32 x, .int .i64 (-11)] S = some (u32 (rr 11 x), S) := rot_neg 11 _ rfl (by omega) (by omega) (by rfl) (by rfl) x S
theorem rot25 (x : UInt32) (S : St) : xRot [u32 x, .int .i64 (-25)] S = some (u32 (rr 25 x), S) := rot_neg 25 _ rfl (by omega) (by omega) (by rfl) (by rfl) x S
theorem rot2 (x : UInt32) (S : St) : xRot [u32 x, .int .i64 (-2)] S = some (u32 (rr 2 x), S) := rot_neg 2 _ rfl (by omega) (by omega) (by rfl) (by rfl) x S
theorem rot13 (x : UInt32) (S : St) : xRot [u32 x, .int .i64 (-13)] S = some (u32 (rr 13 x), S) := rot_neg 13 _ rfl (by omega) (by omega) (by rfl) (by rfl) x S
theorem rot22 (x : UInt32) (S : St) : xRot [u32 x, .int .i64 (-22)] S = some (u32 (rr 22 x), S) := rot_neg 22 _ rfl (by omega) (by omega) (by rfl) (by rfl) x S

theorem take_round {k : Nat} {f : Fr} {T T' : St} {h : AVal} {rw' rk t : Nat} {v : V8} {w K : UInt32} (ht : t < 64) (hK : steps[t]? = some K) (hk : T[rk]? = some (.live 0 (ucells steps))) (hk' : T'[rk]? = some (.live 0 (ucells steps)))
    (hn : xNext [.ptr rw' 0 0, .int .i64 (t : Int)] T = some (u32 w, T')) (hf : TkF f h rw' rk v t) :
    Post (evC oTake k sha_Hash_take_l0 f T) fun e f' T1 => e = .normal ∧ T1 = T' ∧ TkF f' h rw' rk (turn v K w) (t + 1) := by
  obtain ⟨a, b, c, d, e, f0, g, o⟩ := v
  have hlss : binA .lss (.int .i64 (t : Int)) (.int .i64 64) = some (.bool true) := by simp [binA, intBin]; omega
  have hadd : binA .add (.int .i64 (t : Int)) (.int .i64 1) = some (.int .i64 ((t : Int) + 1)) := by
    have h1 : IntKind.i64.wrap ((t : Int) + 1) = (t : Int) + 1 := wrap64 (by omega) (by omega)
    simp [binA, intBin, h1]
  have ia : iaddrAA 1 64 (.ptr rk 0 0) (.int .i64 (t : Int)) = some (.ptr rk 0 t) := by
    have h0 : (0 : Int) ≤ (t : Int) ∧ (t : Int) < (64 : Nat) := by omega
    simp only [iaddrAA]
    rw [if_pos h0, Int.toNat_natCast, Nat.zero_add, Nat.mul_one]
  have hg := ucells_get hK
  obtain ⟨s0, s2, s3, s4, s5, s6, s7, s8, s9, s10, s11, s65⟩ := hf
  simp only at s4 s5 s6 s7 s8 s9 s10 s11
  suffices hmid : Post (evC oTake k sha_Hash_take_l0 f T) (fun ee f' T1 => ee = .normal ∧ T1 = T' ∧ f'.get 0 = h ∧ f'.get 2 = .ptr rw' 0 0 ∧ f'.get 3 = .ptr rk 0 0 ∧
      f'.get 4 = u32 (o + (rr 6 e ^^^ rr 11 e ^^^ rr 25 e) + (g ^^^ (e &&& (f0 ^^^ g))) + K + w + ((rr 2 a ^^^ rr 13 a ^^^ rr 22 a) + ((a &&& b) ||| (c &&& (a ||| b))))) ∧ f'.get 5 = u32 a ∧ f'.get 6 = u32 b ∧ f'.get 7 = u32 c ∧
      f'.get 8 = u32 (d + (o + (rr 6 e ^^^ rr 11 e ^^^ rr 25 e) + (g ^^^ (e &&& (f0 ^^^ g))) + K + w)) ∧ f'.get 9 = u32 e ∧ f'.get 10 = u32 f0 ∧ f'.get 11 = u32 g ∧ f'.get 65 = .int .i64 ((t : Int) + 1)) by
    refine hmid.mono ?_
    rintro ee f' T1 ⟨h1, h2, k0, k2, k3, k4, k5, k6, k7, k8, k9, k10, k11, k65⟩
    exact ⟨h1, h2, ⟨k0, k2, k3, k4, k5, k6, k7, k8, k9, k10, k11, by rw [k65]; simp⟩⟩
  simp [sha_Hash_take_l0, exM, orc, orcD, evF, evC, evOps, evOper, evAny, evOp, evCall, putR, putA, Fr.ev, Fr.of, Fr.get, Fr.set, stable, junkA, junkL, resultsA, resA, same, oTake, Fr.get_set, s0, s2, s3, s4, s5, s6, s7, s8, s9, s10, s11, s65, hlss, hadd, ia, loadA, partA_none, hk, hk', hg, hn, rot6, rot11, rot25, rot2, rot13, rot22, xor_u32, and_u32, or_u32, add_u32, trL, sameRead, sameVal, beqV_refl, Post_some]
end Am.Sha
end

/- SHA-256: all rounds of a block. -/
section
namespace Am.Sha
open Am Go Am.Ir
set_option maxRecDepth 100000

theorem W_next {w : List UInt32} (hw : w.length = 16) {t : Nat} (h1 : 16 ≤ t) (h2 : t < 64) {x16 x15 x7 x2 : UInt32} (g16 : (wseq w 48)[t - 16]? = some x16) (g15 : (wseq w 48)[t - 15]? = some x15) (g7 : (wseq w 48)[t - 7]? = some x7) (g2 : (wseq w 48)[t - 2]? = some x2) :
    (wseq w 48)[t]? = some (x16 + (low x15 + x7 + high x2)) := by
  obtain ⟨d, rfl⟩ : ∃ d, t = 16 + d := ⟨t - 16, by omega⟩
  have e1 : (wseq w 48)[16 + d]? = (wseq w (d + 1))[16 + d]? := by
    have := wseq_get w (d + 1) (16 + d) (by omega) (48 - (d + 1))
    rwa [show d + 1 + (48 - (d + 1)) = 48 by omega] at this
  have e2 : ∀ i, i < 16 + d → (wseq w 48)[i]? = (wseq w d)[i]? := fun i hi => by
    have := wseq_get w d i (by omega) (48 - d)
    rwa [show d + (48 - d) = 48 by omega] at this
  have hl : (wseq w d).length = 16 + d := by rw [wseq_len, hw]
  rw [e2 _ (by omega)] at g16 g15 g7 g2
  rw [e1]
  show (wseq w d ++ [nextW (wseq w d)])[16 + d]? = _
  rw [List.getElem?_append_right (by omega), hl, Nat.sub_self]
  simp only [List.getElem?_cons_zero, nextW, hl, List.getD, g16, g15, g7, g2, Option.getD_some]

/-- What the wheel holds ahead of a step. -/
structure WinI (c w : List UInt32) (t : Nat) : Prop where
  ln : c.length = 16
  at' : ∀ m, m < 64 → (m < t ∨ m < 16) → t ≤ m + 16 → c[m % 16]? = (wseq w 48)[m]?

theorem WinI.start {w : List UInt32} (hw : w.length = 16) : WinI w w 0 := by
  refine ⟨hw, fun m _ h2 _ => ?_⟩
  have hm : m < 16 := by omega
  rw [Nat.mod_eq_of_lt hm]
  have := wseq_get w 0 m (by omega) 48
  rw [Nat.zero_add] at this
  rw [this]; rfl

theorem next_ok {S : St} {r t : Nat} {c w : List UInt32} (hw : w.length = 16) (ht : t < 64) (h : WinI c w t) (hr : S[r]? = some (.live 0 (ucells c))) :
    ∃ x c' S', (wseq w 48)[t]? = some x ∧ xNext [.ptr r 0 0, .int .i64 (t : Int)] S = some (u32 x, S') ∧ S'[r]? = some (.live 0 (ucells c')) ∧ WinI c' w (t + 1) ∧ Keeps S S' [r] := by
  have hl : (wseq w 48).length = 64 := by rw [wseq_len, hw]
  have ge : ∀ m, m < 64 → ∃ x, (wseq w 48)[m]? = some x := fun m hm => ⟨_, List.getElem?_eq_getElem (by omega)⟩
  by_cases h16 : t < 16
  · obtain ⟨x, hx⟩ := ge t ht
    have hc := h.at' t ht (.inr h16) (by omega)
    rw [Nat.mod_eq_of_lt h16, hx] at hc
    exact ⟨x, c, S, hx, next_low h16 hr hc, hr, ⟨h.ln, fun m h1 h2 h3 => h.at' m h1 (by omega) (by omega)⟩, Keeps.refl S _⟩
  · obtain ⟨x16, g16⟩ := ge (t - 16) (by omega)
    obtain ⟨x15, g15⟩ := ge (t - 15) (by omega)
    obtain ⟨x7, g7⟩ := ge (t - 7) (by omega)
    obtain ⟨x2, g2⟩ := ge (t - 2) (by omega)
    have hW := W_next hw (by omega) ht g16 g15 g7 g2
    have c16 := h.at' (t - 16) (by omega) (by omega) (by omega)
    have c15 := h.at' (t - 15) (by omega) (by omega) (by omega)
    have c7 := h.at' (t - 7) (by omega) (by omega) (by omega)
    have c2 := h.at' (t - 2) (by omega) (by omega) (by omega)
    rw [g16, show (t - 16) % 16 = t % 16 by omega] at c16
    rw [g15, show (t - 15) % 16 = (t + 1) % 16 by omega] at c15
    rw [g7, show (t - 7) % 16 = (t + 9) % 16 by omega] at c7
    rw [g2, show (t - 2) % 16 = (t + 14) % 16 by omega] at c2
    have hn := next_high (by omega) ht h.ln hr c16 c15 c7 c2
    have hrl := (List.getElem?_eq_some_iff.1 hr).1
    refine ⟨_, c.set (t % 16) (x16 + (low x15 + x7 + high x2)), _, hW, hn, by simp [hrl], ⟨by simp [h.ln], fun m h1 h2 h3 => ?_⟩, Keeps.set ..⟩
    have hln := h.ln
    by_cases e : m = t
    · subst e
      rw [hW, List.getElem?_set_self (by omega)]
    · have hne : t % 16 ≠ m % 16 := by omega
      rw [List.getElem?_set_ne hne]
      exact h.at' m h1 (by omega) (by omega)

/-- What goes round, behind so many steps. -/
def vseq (w : List UInt32) (v : V8) : Nat → V8
  | 0 => v
  | t + 1 => turn (vseq w v t) (steps.getD t 0) ((wseq w 48).getD t 0)

theorem steps_len : steps.length = 64 := rfl

theorem take_loop {f : Fr} {T : St} {h : AVal} {rw' rk : Nat} {v : V8} {w : List UInt32} (hw : w.length = 16) (hne : rw' ≠ rk) (hk : T[rk]? = some (.live 0 (ucells steps))) (hr : T[rw']? = some (.live 0 (ucells w))) (hf : TkF f h rw' rk v 0) :
    Post (evC oTake 1000 sha_Hash_take_s1 f T) fun e f' T' => e = .normal ∧ TkF f' h rw' rk (vseq w v 64) 64 ∧ Keeps T T' [rw'] := by
  obtain ⟨f', S', h1, h2⟩ := loop_post (O := oTake) (k := 1000) (id := 0) (b := sha_Hash_take_l0)
    (I := fun t f T' => TkF f h rw' rk (vseq w v t) t ∧ Keeps T T' [rw'] ∧ T'[rk]? = some (.live 0 (ucells steps)) ∧ ∃ c, WinI c w t ∧ T'[rw']? = some (.live 0 (ucells c)))
    (Q := fun f' T' => TkF f' h rw' rk (vseq w v 64) 64 ∧ Keeps T T' [rw']) 64 (by omega)
    (by
      rintro t ht f T1 ⟨g1, g2, g3, c, g4, g5⟩
      obtain ⟨x, c', T2, n1, n2, n3, n4, n5⟩ := next_ok hw ht g4 g5
      obtain ⟨K, hK⟩ : ∃ K, steps[t]? = some K := ⟨_, List.getElem?_eq_getElem (by rw [steps_len]; exact ht)⟩
      have hk2 : T2[rk]? = some (.live 0 (ucells steps)) := n5.get g3 (by simp; exact fun e => hne e.symm)
      refine (take_round ht hK g3 hk2 n2 g1).mono ?_
      rintro e f' T3 ⟨rfl, rfl, k1⟩
      refine ⟨rfl, ?_, g2.trans n5 (fun r hr => .inl hr), hk2, c', n4, n3⟩
      have e1 : steps.getD t 0 = K := by simp only [List.getD, hK, Option.getD_some]
      have e2 : (wseq w 48).getD t 0 = x := by simp only [List.getD, n1, Option.getD_some]
      simp only [vseq, e1, e2]
      exact k1)
    (by
      rintro f T1 ⟨g1, g2, g3, c, g4, g5⟩
      obtain ⟨s0, s2, s3, s4, s5, s6, s7, s8, s9, s10, s11, s65⟩ := g1
      have s65' : f.get 65 = .int .i64 64 := s65
      have hlss : binA .lss (.int .i64 64) (.int .i64 64) = some (.bool false) := rfl
      obtain ⟨V, hV⟩ : ∃ V, vseq w v 64 = V := ⟨_, rfl⟩
      rw [hV] at s4 s5 s6 s7 s8 s9 s10 s11 ⊢
      suffices hmid : Post (evC oTake 1000 sha_Hash_take_l0 f T1) (fun ee f' T2 => ee = .exit 0 ∧ T2 = T1 ∧ f'.get 0 = h ∧ f'.get 2 = .ptr rw' 0 0 ∧ f'.get 3 = .ptr rk 0 0 ∧ f'.get 4 = u32 V.a ∧ f'.get 5 = u32 V.b ∧ f'.get 6 = u32 V.c ∧ f'.get 7 = u32 V.d ∧ f'.get 8 = u32 V.e ∧ f'.get 9 = u32 V.f ∧ f'.get 10 = u32 V.g ∧ f'.get 11 = u32 V.o ∧ f'.get 65 = .int .i64 64) by
        refine hmid.mono ?_
        rintro ee f' T2 ⟨h1, rfl, k0, k2, k3, k4, k5, k6, k7, k8, k9, k10, k11, k65⟩
        exact ⟨h1, ⟨k0, k2, k3, k4, k5, k6, k7, k8, k9, k10, k11, k65⟩, g2⟩
      simp [sha_Hash_take_l0, exM, orc, orcD, evF, evC, evOps, evOper, evAny, evOp, evCall, putR, putA, Fr.ev, Fr.of, Fr.get, Fr.set, stable, junkA, junkL, resultsA, resA, same, Fr.get_set, s0, s2, s3, s4, s5, s6, s7, s8, s9, s10, s11, s65', hlss, Post_some])
    (f := f) (S := T) ⟨hf, Keeps.refl T _, hk, w, WinI.start hw, hr⟩
  rw [show sha_Hash_take_s1 = .block 0 (.loop sha_Hash_take_l0) from rfl, h1]
  exact Post.of rfl ⟨rfl, h2⟩
end Am.Sha
end

