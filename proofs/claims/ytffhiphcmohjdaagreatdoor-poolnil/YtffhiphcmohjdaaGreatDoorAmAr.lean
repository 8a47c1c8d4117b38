/- Arithmetic of the machine, with conditions that a discharger proves. -/
import Derived.Test.YtffhiphcmohjdaaGreatDoorAmBits
import Derived.Test.YtffhiphcmohjdaaGreatDoorAmRefK
set_option linter.all false
namespace Am
open Go

theorem lss_t {k : IntKind} {a b : Int} (h : a < b) : binA .lss (.int k a) (.int k b) = some (.bool true) := by simp [binA, intBin, h]
theorem lss_f {k : IntKind} {a b : Int} (h : b ≤ a) : binA .lss (.int k a) (.int k b) = some (.bool false) := by simp [binA, intBin]; omega
theorem leq_t {k : IntKind} {a b : Int} (h : a ≤ b) : binA .leq (.int k a) (.int k b) = some (.bool true) := by simp [binA, intBin, h]
theorem leq_f {k : IntKind} {a b : Int} (h : b < a) : binA .leq (.int k a) (.int k b) = some (.bool false) := by simp [binA, intBin]; omega
theorem gtr_t {k : IntKind} {a b : Int} (h : b < a) : binA .gtr (.int k a) (.int k b) = some (.bool true) := by simp [binA, intBin, h]
theorem gtr_f {k : IntKind} {a b : Int} (h : a ≤ b) : binA .gtr (.int k a) (.int k b) = some (.bool false) := by simp [binA, intBin]; omega
theorem geq_t {k : IntKind} {a b : Int} (h : b ≤ a) : binA .geq (.int k a) (.int k b) = some (.bool true) := by simp [binA, intBin, h]
theorem geq_f {k : IntKind} {a b : Int} (h : a < b) : binA .geq (.int k a) (.int k b) = some (.bool false) := by simp [binA, intBin]; omega
theorem eql_t {k : IntKind} {a b : Int} (h : a = b) : binA .eql (.int k a) (.int k b) = some (.bool true) := by simp [binA, intBin, h]
theorem eql_f {k : IntKind} {a b : Int} (h : a ≠ b) : binA .eql (.int k a) (.int k b) = some (.bool false) := by simp [binA, intBin, h]
theorem neq_t {k : IntKind} {a b : Int} (h : a ≠ b) : binA .neq (.int k a) (.int k b) = some (.bool true) := by simp [binA, intBin, h]
theorem neq_f {k : IntKind} {a b : Int} (h : a = b) : binA .neq (.int k a) (.int k b) = some (.bool false) := by simp [binA, intBin, h]
theorem add_i {a b : Int} (h : -9223372036854775808 ≤ a + b) (h' : a + b ≤ 9223372036854775807) : binA .add (.int .i64 a) (.int .i64 b) = some (.int .i64 (a + b)) := by simp [binA, intBin, wrap64 h h']
theorem sub_i {a b : Int} (h : -9223372036854775808 ≤ a - b) (h' : a - b ≤ 9223372036854775807) : binA .sub (.int .i64 a) (.int .i64 b) = some (.int .i64 (a - b)) := by simp [binA, intBin, wrap64 h h']
theorem mul_i {a b : Int} (h : -9223372036854775808 ≤ a * b) (h' : a * b ≤ 9223372036854775807) : binA .mul (.int .i64 a) (.int .i64 b) = some (.int .i64 (a * b)) := by simp [binA, intBin, wrap64 h h']
theorem add_is {a b c : Int} (e : a + b = c) (h : -9223372036854775808 ≤ c) (h' : c ≤ 9223372036854775807) : binA .add (.int .i64 a) (.int .i64 b) = some (.int .i64 c) := by subst e; exact add_i h h'
theorem sub_is {a b c : Int} (e : a - b = c) (h : -9223372036854775808 ≤ c) (h' : c ≤ 9223372036854775807) : binA .sub (.int .i64 a) (.int .i64 b) = some (.int .i64 c) := by subst e; exact sub_i h h'
theorem mul_is {a b c : Int} (e : a * b = c) (h : -9223372036854775808 ≤ c) (h' : c ≤ 9223372036854775807) : binA .mul (.int .i64 a) (.int .i64 b) = some (.int .i64 c) := by subst e; exact mul_i h h'
theorem quo_i {a b : Int} (h : 0 ≤ a) (h' : a ≤ 9223372036854775807) (hb : 0 < b) : binA .quo (.int .i64 a) (.int .i64 b) = some (.int .i64 (a / b)) := by
  have h1 : a.tdiv b = a / b := Int.tdiv_eq_ediv_of_nonneg h
  have h2 : a / b ≤ a := Int.ediv_le_self _ h
  have h3 : 0 ≤ a / b := Int.ediv_nonneg h (by omega)
  have hb0 : b ≠ 0 := by omega
  simp [binA, intBin, h1, hb0, wrap64 (n := a / b) (by omega) (by omega)]
theorem rem_i {a b : Int} (h : 0 ≤ a) (hb : 0 < b) : binA .rem (.int .i64 a) (.int .i64 b) = some (.int .i64 (a % b)) := by
  have h1 : a.tmod b = a % b := Int.tmod_eq_emod_of_nonneg h
  have hb0 : b ≠ 0 := by omega
  simp [binA, intBin, h1, hb0]

theorem conv_i64 {n : Int} (h : -9223372036854775808 ≤ n) (h' : n ≤ 9223372036854775807) : IntKind.i64.wrap n = n := wrap64 h h'
theorem conv_u64 {n : Int} (h : 0 ≤ n) (h' : n ≤ 18446744073709551615) : IntKind.u64.wrap n = n := by
  simp [IntKind.wrap, IntKind.bits, IntKind.signed]; omega
theorem conv_u32 {n : Int} (h : 0 ≤ n) (h' : n ≤ 4294967295) : IntKind.u32.wrap n = n := by
  simp [IntKind.wrap, IntKind.bits, IntKind.signed]; omega
theorem conv_u8 {n : Int} (h : 0 ≤ n) (h' : n ≤ 255) : IntKind.u8.wrap n = n := by
  simp [IntKind.wrap, IntKind.bits, IntKind.signed]; omega

theorem iaS {sz r v off len : Nat} {k : IntKind} {i : Int} (h : 0 ≤ i) (h' : i < (len : Int)) : iaddrSA sz (.sl r v off len sz) (.int k i) = some (.ptr r v (off + i.toNat * sz)) := by
  simp [iaddrSA, h, h']
theorem iaA {sz len r v off : Nat} {k : IntKind} {i : Int} (h : 0 ≤ i) (h' : i < (len : Int)) : iaddrAA sz len (.ptr r v off) (.int k i) = some (.ptr r v (off + i.toNat * sz)) := by
  simp [iaddrAA, h, h']
theorem bounds_nn (n : Nat) : bounds n none none = some (0, n) := by simp [bounds]
theorem bounds_ln {n : Nat} {k : IntKind} {l : Int} (h : 0 ≤ l) (h' : l ≤ (n : Int)) : bounds n (some (.int k l)) none = some (l.toNat, n) := by simp [bounds, h, h']
theorem bounds_nh {n : Nat} {k : IntKind} {u : Int} (h : 0 ≤ u) (h' : u ≤ (n : Int)) : bounds n none (some (.int k u)) = some (0, u.toNat) := by simp [bounds, h, h']
theorem bounds_lh {n : Nat} {k k' : IntKind} {l u : Int} (h : 0 ≤ l) (h1 : l ≤ u) (h' : u ≤ (n : Int)) : bounds n (some (.int k l)) (some (.int k' u)) = some (l.toNat, u.toNat) := by simp [bounds, h, h1, h']

/-- Reading a cell. -/
theorem load_c {r v o : Nat} {S : St} {cs : List AVal} (hS : S[r]? = some (.live v cs)) : loadA none (.ptr r v o) S = cs[o]? := by
  simp [loadA, hS, partA]
end Am
