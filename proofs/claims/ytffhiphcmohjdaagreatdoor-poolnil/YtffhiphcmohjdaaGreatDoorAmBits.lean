/- Bytes and words of the machine. -/
import Derived.Test.YtffhiphcmohjdaaGreatDoorAmKeep
set_option linter.all false
namespace Am
open Go

theorem wrapU8 {n : Nat} (h : n < 256) : IntKind.u8.wrap (n : Int) = n := by
  simp [IntKind.wrap, IntKind.bits, IntKind.signed]; omega
theorem wrapU32 {n : Nat} (h : n < 4294967296) : IntKind.u32.wrap (n : Int) = n := by
  simp [IntKind.wrap, IntKind.bits, IntKind.signed]; omega
theorem wrapU64 {n : Nat} (h : n < 18446744073709551616) : IntKind.u64.wrap (n : Int) = n := by
  simp [IntKind.wrap, IntKind.bits, IntKind.signed]; omega

theorem ofInt_u8 (a : UInt8) : BitVec.ofInt 8 (a.toNat : Int) = a.toBitVec := by
  rw [BitVec.ofInt_natCast]; apply BitVec.eq_of_toNat_eq; simp
theorem ofInt_u32 (a : UInt32) : BitVec.ofInt 32 (a.toNat : Int) = a.toBitVec := by
  rw [BitVec.ofInt_natCast]; apply BitVec.eq_of_toNat_eq; simp

theorem xor_u8 (a b : UInt8) : binA .xor (.int .u8 (a.toNat : Int)) (.int .u8 (b.toNat : Int)) = some (.int .u8 ((a ^^^ b).toNat : Int)) := by
  have h : IntKind.u8.wrap ((BitVec.ofInt 8 (a.toNat : Int) ^^^ BitVec.ofInt 8 (b.toNat : Int)).toNat : Int) = ((a ^^^ b).toNat : Int) := by
    rw [ofInt_u8, ofInt_u8, wrapU8 (BitVec.isLt _)]; rfl
  simp only [binA, intBin]
  rw [if_neg (by simp), if_pos trivial]
  exact congrArg (fun z => some (AVal.int .u8 z)) h

/-- A word. -/
def u32 (x : UInt32) : AVal := .int .u32 (x.toNat : Int)

theorem xor_u32 (a b : UInt32) : binA .xor (u32 a) (u32 b) = some (u32 (a ^^^ b)) := by
  have h : IntKind.u32.wrap ((BitVec.ofInt 32 (a.toNat : Int) ^^^ BitVec.ofInt 32 (b.toNat : Int)).toNat : Int) = ((a ^^^ b).toNat : Int) := by
    rw [ofInt_u32, ofInt_u32, wrapU32 (BitVec.isLt _)]; rfl
  simp only [binA, intBin, u32]
  rw [if_neg (by simp), if_pos trivial]
  exact congrArg (fun z => some (AVal.int .u32 z)) h
theorem and_u32 (a b : UInt32) : binA .and (u32 a) (u32 b) = some (u32 (a &&& b)) := by
  have h : IntKind.u32.wrap ((BitVec.ofInt 32 (a.toNat : Int) &&& BitVec.ofInt 32 (b.toNat : Int)).toNat : Int) = ((a &&& b).toNat : Int) := by
    rw [ofInt_u32, ofInt_u32, wrapU32 (BitVec.isLt _)]; rfl
  simp only [binA, intBin, u32]
  rw [if_neg (by simp), if_pos trivial]
  exact congrArg (fun z => some (AVal.int .u32 z)) h
theorem or_u32 (a b : UInt32) : binA .or (u32 a) (u32 b) = some (u32 (a ||| b)) := by
  have h : IntKind.u32.wrap ((BitVec.ofInt 32 (a.toNat : Int) ||| BitVec.ofInt 32 (b.toNat : Int)).toNat : Int) = ((a ||| b).toNat : Int) := by
    rw [ofInt_u32, ofInt_u32, wrapU32 (BitVec.isLt _)]; rfl
  simp only [binA, intBin, u32]
  rw [if_neg (by simp), if_pos trivial]
  exact congrArg (fun z => some (AVal.int .u32 z)) h
theorem add_u32 (a b : UInt32) : binA .add (u32 a) (u32 b) = some (u32 (a + b)) := by
  simp only [binA, intBin, u32]
  rw [if_neg (by simp), if_pos trivial]
  have h : IntKind.u32.wrap ((a.toNat : Int) + (b.toNat : Int)) = ((a + b).toNat : Int) := by
    rw [UInt32.toNat_add]
    simp [IntKind.wrap, IntKind.bits, IntKind.signed]
  rw [h]
theorem shl_u32 (a : UInt32) (k : IntKind) (n : Nat) (hn : n < 32) : binA .shl (u32 a) (.int k (n : Int)) = some (u32 (a <<< (UInt32.ofNat n))) := by
  simp only [binA, u32, shiftA]
  rw [if_pos (by simp), if_neg (by omega)]
  have h : IntKind.u32.wrap ((a.toNat : Int) * 2 ^ (min ((n : Int).toNat) IntKind.u32.bits)) = ((a <<< (UInt32.ofNat n)).toNat : Int) := by
    have e : min ((n : Int).toNat) IntKind.u32.bits = n := by simp [IntKind.bits]; omega
    rw [e, UInt32.toNat_shiftLeft]
    have e2 : (UInt32.ofNat n).toNat % 32 = n := by simp; omega
    rw [e2, Nat.shiftLeft_eq]
    simp [IntKind.wrap, IntKind.bits, IntKind.signed]
  rw [h]
theorem shr_u32 (a : UInt32) (k : IntKind) (n : Nat) (hn : n < 32) : binA .shr (u32 a) (.int k (n : Int)) = some (u32 (a >>> (UInt32.ofNat n))) := by
  simp only [binA, u32, shiftA]
  rw [if_pos (by simp), if_neg (by omega)]
  have h : (a.toNat : Int).fdiv (2 ^ (min ((n : Int).toNat) IntKind.u32.bits)) = ((a >>> (UInt32.ofNat n)).toNat : Int) := by
    have e : min ((n : Int).toNat) IntKind.u32.bits = n := by simp [IntKind.bits]; omega
    rw [e, UInt32.toNat_shiftRight]
    have e2 : (UInt32.ofNat n).toNat % 32 = n := by simp; omega
    rw [e2, Nat.shiftRight_eq_div_pow]
    have h3 : (2 : Int) ^ n = ((2 ^ n : Nat) : Int) := by simp
    rw [h3, Int.fdiv_eq_ediv_of_nonneg _ (Int.natCast_nonneg _)]
    simp
  rw [h]
end Am
