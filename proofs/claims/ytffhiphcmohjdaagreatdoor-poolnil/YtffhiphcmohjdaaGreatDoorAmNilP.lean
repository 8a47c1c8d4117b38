/- No pool: what each call tells. -/
import Derived.Test.YtffhiphcmohjdaaGreatDoorAmFz6
import Derived.Test.YtffhiphcmohjdaaGreatDoorAmIrNil14Ok
import Derived.Test.YtffhiphcmohjdaaGreatDoorAmQ1
import Derived.Test.YtffhiphcmohjdaaGreatDoorAmRefK
set_option linter.all false
set_option linter.all false
namespace Go.Proofs.AlP
open Am Am.Fz Am.Ir Go Go.Proofs
set_option maxRecDepth 100000

noncomputable def mX (g : FuncId) : Model := pureM 3 (rm Tryz.prog rowsN g)
def flt (op : List UInt8) : AVal := .fq [.str op, .int .i64 8, .nilp]
noncomputable def nilRes (g : FuncId) (args : List AVal) : Option AVal := match rm Tryz.prog rowsN g args [] with
  | some (v, T) => deep T 0 3 v
  | none => none
theorem mX_of {g : FuncId} {args : List AVal} {v : AVal} (hc : closedL 0 args = true) (h : nilRes g args = some v) (S : St) : mX g args S = some (v, S) := by
  unfold nilRes at h
  split at h
  · rename_i u T he
    exact pureM_run hc he h
  · cases h
theorem c_create (a b c : List UInt8) (n : Int) (x : AVal) (o : Bool) : nilRes 34 [.nilp, .str a] = some (flt [99, 114, 101, 97, 116, 101]) := by kernel_rfl
theorem c_drop (a b c : List UInt8) (n : Int) (x : AVal) (o : Bool) : nilRes 37 [.nilp, .str a] = some (flt [100, 114, 111, 112]) := by kernel_rfl
theorem c_write0 (a : List UInt8) (n : Int) : nilRes 35 [.nilp, .str a, .int .i64 n, .nils] = some (flt [119, 114, 105, 116, 101]) := by kernel_rfl
theorem c_write1 (a : List UInt8) (n : Int) (f : Bool) (l : Nat) (cs : List AVal) : nilRes 35 [.nilp, .str a, .int .i64 n, .fz f l cs] = some (flt [119, 114, 105, 116, 101]) := by kernel_rfl
def Bs (x : AVal) : Prop := x = .nils ∨ ∃ f l cs, x = .fz f l cs
theorem c_write (a b c : List UInt8) (n : Int) {x : AVal} (h : Bs x) : nilRes 35 [.nilp, .str a, .int .i64 n, x] = some (flt [119, 114, 105, 116, 101]) := by
  rcases h with rfl | ⟨f, l, cs, rfl⟩
  · exact c_write0 a n
  · exact c_write1 a n f l cs
theorem c_trim (a b c : List UInt8) (n : Int) (x : AVal) (o : Bool) : nilRes 38 [.nilp, .str a, .int .i64 n] = some (flt [116, 114, 105, 109]) := by kernel_rfl
theorem c_snap (a b c : List UInt8) (n : Int) (x : AVal) (o : Bool) : nilRes 39 [.nilp, .str a, .str b] = some (flt [115, 110, 97, 112]) := by kernel_rfl
theorem c_destroy (a b c : List UInt8) (n : Int) (x : AVal) (o : Bool) : nilRes 40 [.nilp, .str a, .str b] = some (flt [100, 101, 115, 116, 114, 111, 121]) := by kernel_rfl
theorem c_rollback (a b c : List UInt8) (n : Int) (x : AVal) (o : Bool) : nilRes 41 [.nilp, .str a, .str b] = some (flt [114, 111, 108, 108, 98, 97, 99, 107]) := by kernel_rfl
theorem c_clone (a b c : List UInt8) (n : Int) (x : AVal) (o : Bool) : nilRes 42 [.nilp, .str a, .str b, .str c] = some (flt [99, 108, 111, 110, 101]) := by kernel_rfl
theorem c_hold (a b c : List UInt8) (n : Int) (x : AVal) (o : Bool) : nilRes 43 [.nilp, .str a, .str b, .bool o] = some (flt [104, 111, 108, 100]) := by kernel_rfl
theorem c_read (a b c : List UInt8) (n : Int) (x : AVal) (o : Bool) : nilRes 36 [.nilp, .str a, .str b, .int .i64 n] = some (.tup [.nils, flt [114, 101, 97, 100]]) := by kernel_rfl
theorem c_txg : nilRes 10 [.nilp] = some (.int .u32 0) := by kernel_rfl
theorem c_free : nilRes 11 [.nilp] = some (.int .i64 0) := by kernel_rfl
theorem c_lost : nilRes 12 [.nilp] = some (.bool true) := by kernel_rfl
theorem c_bank : nilRes 13 [.nilp] = some .nilp := by kernel_rfl
def zState : List AVal := rp [(1, .int .u32 0), (2, .nils), (1, .int .u32 0), (32, .int .u8 0), (3, .int .u32 0)]
theorem c_state : nilRes 14 [.nilp] = some (.agg zState) := by kernel_rfl
theorem c_commit : nilRes 15 [.nilp, .str [120], .nilp, .agg zState, .int .i64 0] = some (flt [120]) := by kernel_rfl
theorem c_code (op : List UInt8) : nilRes 9 [flt op] = some (.int .i64 8) := by kernel_rfl
theorem c_code0 : nilRes 9 [.nilp] = some (.int .i64 0) := by kernel_rfl

noncomputable def xCall : Model := exM (orc [mX 34, mX 37, mX 35, mX 38, mX 39, mX 40, mX 41, mX 42, mX 43, mX 36]) l14_call 10
noncomputable def mCall : Model := pureM 4 xCall
def actV (k : Int) (a b c : List UInt8) (n : Int) (x y : AVal) : AVal := .agg [.int .i64 k, .str a, .str b, .str c, .int .i64 n, x, y]

attribute [local simp] ox oz kx kz og ogz kg kgz mo ai
theorem call_ok (k : Int) (a b c : List UInt8) (n : Int) (x y : AVal) (hxb : Bs x) (hx : closedV 0 x = true) (hy : closedV 0 y = true) (S : St) :
    ∃ e, mCall [.nilp, actV k a b c n x y] S = some (.tup [.str [], e], S) ∧ ((1 ≤ k ∧ k ≤ 10 ∧ ∃ op, e = flt op) ∨ (¬ (1 ≤ k ∧ k ≤ 10) ∧ e = .nilp)) := by
  have hc : closedL 0 [.nilp, actV k a b c n x y] = true := by simp [closedL, closedV, actV, hx, hy]
  have d1 : ∀ (T : St) op, deep T 0 4 (.tup [.str [], flt op]) = some (.tup [.str [], flt op]) := fun T op => by simp [deep, flt]
  have d2 : ∀ (T : St), deep T 0 4 (.tup [.str [], .nilp]) = some (.tup [.str [], .nilp]) := fun T => by simp [deep]
  have key : ∀ e, (∀ T, deep T 0 4 (.tup [.str [], e]) = some (.tup [.str [], e])) → xCall [.nilp, actV k a b c n x y] [] = some (.tup [.str [], e], [.live 0 [.int .i64 k, .str a, .str b, .str c, .int .i64 n, x, y]]) → mCall [.nilp, actV k a b c n x y] S = some (.tup [.str [], e], S) :=
    fun e hd h => pureM_run hc h (hd _)
  have hcc : ∀ l : List AVal, closedL 0 l = true → True := fun _ _ => trivial
  by_cases h1 : k = 1
  · subst h1
    refine ⟨flt [99, 114, 101, 97, 116, 101], key _ (fun T => d1 T _) ?_, .inl ⟨by omega, by omega, _, rfl⟩⟩
    have f1 := mX_of (g := 34) (args := [.nilp, .str a]) (by simp [closedL, closedV, hx]) (c_create a b c n x true)
    unfold xCall exM
    refine evF_post (F := l14_call) rfl rfl ?_
    simp [l14_call, actV, cells_agg, f1]
  by_cases h2 : k = 2
  · subst h2
    refine ⟨flt [100, 114, 111, 112], key _ (fun T => d1 T _) ?_, .inl ⟨by omega, by omega, _, rfl⟩⟩
    have f1 := mX_of (g := 37) (args := [.nilp, .str a]) (by simp [closedL, closedV, hx]) (c_drop a b c n x true)
    unfold xCall exM
    refine evF_post (F := l14_call) rfl rfl ?_
    simp [l14_call, actV, cells_agg, f1]
  by_cases h3 : k = 3
  · subst h3
    refine ⟨flt [119, 114, 105, 116, 101], key _ (fun T => d1 T _) ?_, .inl ⟨by omega, by omega, _, rfl⟩⟩
    have f1 := mX_of (g := 35) (args := [.nilp, .str a, .int .i64 n, x]) (by simp [closedL, closedV, hx]) (c_write a b c n hxb)
    unfold xCall exM
    refine evF_post (F := l14_call) rfl rfl ?_
    simp [l14_call, actV, cells_agg, f1]
  by_cases h4 : k = 4
  · subst h4
    refine ⟨flt [116, 114, 105, 109], key _ (fun T => d1 T _) ?_, .inl ⟨by omega, by omega, _, rfl⟩⟩
    have f1 := mX_of (g := 38) (args := [.nilp, .str a, .int .i64 n]) (by simp [closedL, closedV, hx]) (c_trim a b c n x true)
    unfold xCall exM
    refine evF_post (F := l14_call) rfl rfl ?_
    simp [l14_call, actV, cells_agg, f1]
  by_cases h5 : k = 5
  · subst h5
    refine ⟨flt [115, 110, 97, 112], key _ (fun T => d1 T _) ?_, .inl ⟨by omega, by omega, _, rfl⟩⟩
    have f1 := mX_of (g := 39) (args := [.nilp, .str a, .str b]) (by simp [closedL, closedV, hx]) (c_snap a b c n x true)
    unfold xCall exM
    refine evF_post (F := l14_call) rfl rfl ?_
    simp [l14_call, actV, cells_agg, f1]
  by_cases h6 : k = 6
  · subst h6
    refine ⟨flt [100, 101, 115, 116, 114, 111, 121], key _ (fun T => d1 T _) ?_, .inl ⟨by omega, by omega, _, rfl⟩⟩
    have f1 := mX_of (g := 40) (args := [.nilp, .str a, .str b]) (by simp [closedL, closedV, hx]) (c_destroy a b c n x true)
    unfold xCall exM
    refine evF_post (F := l14_call) rfl rfl ?_
    simp [l14_call, actV, cells_agg, f1]
  by_cases h7 : k = 7
  · subst h7
    refine ⟨flt [114, 111, 108, 108, 98, 97, 99, 107], key _ (fun T => d1 T _) ?_, .inl ⟨by omega, by omega, _, rfl⟩⟩
    have f1 := mX_of (g := 41) (args := [.nilp, .str a, .str b]) (by simp [closedL, closedV, hx]) (c_rollback a b c n x true)
    unfold xCall exM
    refine evF_post (F := l14_call) rfl rfl ?_
    simp [l14_call, actV, cells_agg, f1]
  by_cases h8 : k = 8
  · subst h8
    refine ⟨flt [99, 108, 111, 110, 101], key _ (fun T => d1 T _) ?_, .inl ⟨by omega, by omega, _, rfl⟩⟩
    have f1 := mX_of (g := 42) (args := [.nilp, .str a, .str b, .str c]) (by simp [closedL, closedV, hx]) (c_clone a b c n x true)
    unfold xCall exM
    refine evF_post (F := l14_call) rfl rfl ?_
    simp [l14_call, actV, cells_agg, f1]
  by_cases h9 : k = 9
  · subst h9
    refine ⟨flt [104, 111, 108, 100], key _ (fun T => d1 T _) ?_, .inl ⟨by omega, by omega, _, rfl⟩⟩
    obtain ⟨m, hm⟩ : ∃ m : Int, binA .and (.int .i64 n) (.int .i64 1) = some (.int .i64 m) := ⟨_, rfl⟩
    have f1 := mX_of (g := 43) (args := [.nilp, .str a, .str b, .bool (decide (m = 1))]) (by simp [closedL, closedV]) (c_hold a b c n x (decide (m = 1)))
    unfold xCall exM
    refine evF_post (F := l14_call) rfl rfl ?_
    simp [l14_call, actV, cells_agg, f1, hm]
  by_cases h10 : k = 10
  · subst h10
    refine ⟨flt [114, 101, 97, 100], key _ (fun T => d1 T _) ?_, .inl ⟨by omega, by omega, _, rfl⟩⟩
    have f1 := mX_of (g := 36) (args := [.nilp, .str a, .str b, .int .i64 n]) (by simp [closedL, closedV]) (c_read a b c n x true)
    have f2 : ∀ T : St, bytesA .nils T = some [] := fun T => rfl
    unfold xCall exM
    refine evF_post (F := l14_call) rfl rfl ?_
    simp [l14_call, actV, cells_agg, f1, f2]
  · refine ⟨.nilp, key _ d2 ?_, .inr ⟨by omega, rfl⟩⟩
    unfold xCall exM
    refine evF_post (F := l14_call) rfl rfl ?_
    simp [l14_call, actV, cells_agg, h1, h2, h3, h4, h5, h6, h7, h8, h9, h10]

/-- How many a slice has. -/
def SlN (x : AVal) (n : Nat) : Prop := lenA .sl x = some (.int .i64 (n : Int))
noncomputable def xSmall : Model := exM (orc []) l14_small 10
noncomputable def mSmall : Model := pureM 1 xSmall
theorem small_ok (k : Int) (a b c : List UInt8) (n : Int) (x y : AVal) (hx : closedV 0 x = true) (hy : closedV 0 y = true) {p q : Nat} (hp : SlN x p) (hq : SlN y q) (S : St) :
    ∃ t, mSmall [actV k a b c n x y] S = some (.bool t, S) := by
  have hc : closedL 0 [actV k a b c n x y] = true := by simp [closedL, closedV, actV, hx, hy]
  have l1 : ∀ s : List UInt8, lenA .str (.str s) = some (.int .i64 (s.length : Int)) := fun s => rfl
  unfold SlN at hp hq
  have run : ∃ t, xSmall [actV k a b c n x y] [] = some (.bool t, [.live 0 [.int .i64 k, .str a, .str b, .str c, .int .i64 n, x, y]]) := by
    refine ⟨decide ((p : Int) ≤ 300) && decide ((q : Int) ≤ 60) && decide ((a.length : Int) ≤ 20) && decide ((b.length : Int) ≤ 20) && decide ((c.length : Int) ≤ 20), ?_⟩
    unfold xSmall exM
    refine evF_post (F := l14_small) rfl rfl ?_
    by_cases g1 : (p : Int) ≤ 300 <;> by_cases g2 : (q : Int) ≤ 60 <;> by_cases g3 : (a.length : Int) ≤ 20 <;> by_cases g4 : (b.length : Int) ≤ 20 <;> by_cases g5 : (c.length : Int) ≤ 20 <;>
      simp [l14_small, actV, cells_agg, hp, hq, l1, g1, g2, g3, g4, g5]
  obtain ⟨t, ht⟩ := run
  exact ⟨t, pureM_run hc ht rfl⟩

noncomputable def xNil (mA : Model) : Model := exM (orc [mSmall, mA, mCall, mX 9, mX 10, mX 11, mX 12, mX 13, mX 14, mX 15]) l14_PoolNil 10

theorem nil_ok {mA : Model} (hA : ∀ S, mA [] S = some (.bool true, S)) (k : Int) (a b c : List UInt8) (n : Int) (x y : AVal) (hxb : Bs x) (hx : closedV 0 x = true) (hy : closedV 0 y = true) {p q : Nat} (hp : SlN x p) (hq : SlN y q) :
    ∃ S, xNil mA [actV k a b c n x y] [] = some (.bool true, S) := by
  refine ⟨[.live 0 [.int .i64 k, .str a, .str b, .str c, .int .i64 n, x, y]], ?_⟩
  unfold xNil exM
  refine evF_post (F := l14_PoolNil) rfl rfl ?_
  obtain ⟨t, ht⟩ := small_ok k a b c n x y hx hy hp hq [.live 0 [.int .i64 k, .str a, .str b, .str c, .int .i64 n, x, y]]
  have hpart : partA (some 7) 0 [.int .i64 k, .str a, .str b, .str c, .int .i64 n, x, y] = some (actV k a b c n x y) := rfl
  have hcell : cells? (actV k a b c n x y) = some [.int .i64 k, .str a, .str b, .str c, .int .i64 n, x, y] := rfl
  have f1 := fun S => mX_of (g := 10) (args := [.nilp]) rfl c_txg S
  have f2 := fun S => mX_of (g := 11) (args := [.nilp]) rfl c_free S
  have f3 := fun S => mX_of (g := 12) (args := [.nilp]) rfl c_lost S
  have f4 := fun S => mX_of (g := 13) (args := [.nilp]) rfl c_bank S
  have f5 := fun S => mX_of (g := 14) (args := [.nilp]) rfl c_state S
  have f6 := fun S => mX_of (g := 15) (args := [.nilp, .str [120], .nilp, .agg zState, .int .i64 0]) rfl c_commit S
  have f7 := fun op S => mX_of (g := 9) (args := [flt op]) (by simp [closedL, closedV, flt]) (c_code op) S
  have f8 := fun S => mX_of (g := 9) (args := [.nilp]) rfl c_code0 S
  have hz : fillA (rp [(1, .int .u32 0), (2, .nils), (1, .int .u32 0), (32, .int .u8 0), (3, .int .u32 0)]) [] = some zState := rfl
  have hz1 : zState[1]? = some .nils := rfl
  have hz2 : lenA .sl .nils = some (.int .i64 0) := rfl
  generalize mSmall = m1 at *
  cases t with
  | false => simp [-load_live, l14_PoolNil, hcell, ht, hpart, hA, loadA]
  | true =>
    obtain ⟨e, he, hk⟩ := call_ok k a b c n x y hxb hx hy [.live 0 [.int .i64 k, .str a, .str b, .str c, .int .i64 n, x, y]]
    generalize mCall = m2 at *
    generalize mX 9 = m9 at *
    generalize mX 10 = m10 at *
    generalize mX 11 = m11 at *
    generalize mX 12 = m12 at *
    generalize mX 13 = m13 at *
    generalize mX 14 = m14 at *
    generalize mX 15 = m15 at *
    generalize hZ : zState = zs at *
    rcases hk with ⟨h1, h2, op, rfl⟩ | ⟨h1, rfl⟩
    · have g1 : ¬ k < 1 := by omega
      have g2 : ¬ 10 < k := by omega
      simp [-load_live, l14_PoolNil, hcell, ht, hpart, hA, he, loadA, f1, f2, f3, f4, f5, f6, f7, f8, hz, hz1, hz2, g1, g2]
    · by_cases g1 : k < 1
      · simp [-load_live, l14_PoolNil, hcell, ht, hpart, hA, he, loadA, f1, f2, f3, f4, f5, f6, f7, f8, hz, hz1, hz2, g1]
      · have g2 : 10 < k := by omega
        simp [-load_live, l14_PoolNil, hcell, ht, hpart, hA, he, loadA, f1, f2, f3, f4, f5, f6, f7, f8, hz, hz1, hz2, g1, g2]
end Go.Proofs.AlP
