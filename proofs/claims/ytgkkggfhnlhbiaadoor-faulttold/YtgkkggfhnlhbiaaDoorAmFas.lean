/- errors.As at a link (after the kit's worked example of errors.As), at the world. -/
import Derived.Test.YtgkkggfhnlhbiaaDoorProg
import Derived.WalkKit
import Derived.LaidEql
import Derived.Stop.Asserts
import Derived.RowKitTokens
set_option linter.all false
namespace Go.Proofs.Fas
open Go.RowKit Go.Extern.Stop Go.Stop Go.Extern

/-- errors.As(nil, target). -/
theorem as_nil (t : Value) (w : World) :
    Calls Tryd.prog 29 #[.nilIface, t] w fun e w' => e = .returned (.bool false) ∧ w' = w := by
  go_enter Tryd.func29, Tryd.ntmps29
  go_wp2
  go_ret
  exact ⟨rfl, rfl⟩

/-! ### CLOSED FACTS ON THE MODEL's ENTRIES FOR internal/reflectlite, at this program's types: 25: *p.E · 27: **p.E · 23: error · 45: reflectlite's rtype · 1: how many package-level variables the dump has -/
theorem TasvalueOf27 (t : Addr) (w : World) : (ReflectliteValue.unpack (.iface 59 (.pointer (some t)))).run Tryd.prog w
    = .ok (.agg #[.pointer (some ⟨1, 59, none⟩), .pointer (some ⟨w.heap.size, 0, none⟩), .int .u64 150]) (w.alloc (.cells #[.pointer (some t)] 59)) := by kernel_rfl
theorem Tastype27 (a : Addr) (w : World) : (ReflectliteValue.methodAny (ReflectliteValue.valueError "reflectlite.Value.Type" 0) (fun t _ _ _ => ReflectliteType.toType t) #[.agg #[.pointer (some ⟨1, 59, none⟩), .pointer (some a), .int .u64 150]]).run Tryd.prog w
    = .ok (.iface 61 (.agg #[.pointer (some ⟨1, 59, none⟩)])) w := by kernel_rfl
theorem TasmethodKind (h : Value) (w : World) : (Go.method 217 61 (.agg #[h]) "Kind").run Tryd.prog w = .ok (51, h) w := by kernel_rfl
theorem Taskind27 (w : World) : ((ReflectliteType.abiMethod fun t => (fun a : Nat => Value.int IntKind.u8 (a : Int)) <$> Rtype.kind t) #[.pointer (some ⟨1, 59, none⟩)]).run Tryd.prog w = .ok (.int .u8 22) w := by kernel_rfl
theorem Taskind25 (w : World) : ((ReflectliteType.abiMethod fun t => (fun a : Nat => Value.int IntKind.u8 (a : Int)) <$> Rtype.kind t) #[.pointer (some ⟨1, 46, none⟩)]).run Tryd.prog w = .ok (.int .u8 25) w := by kernel_rfl

/-! ### THE ENTRIES THAT READ OR WRITE MEMORY: laws with a premise on the cell (after Derived/Lib/ReflectliteSlice.lean's manner: each unfolding a lemma of its own, by rfl) -/
theorem rlm (z : Sem Value) (f : TypeId → Addr → Nat → Nat → Sem Value) (v : Value) :
    ReflectliteValue.method z f #[v] = (do match ← ReflectliteValue.parts v with | none => z | some (t, a, fl) => f t a fl (fl % 32)) := rfl
theorem Tasparts27 (a : Addr) (w : World) : (ReflectliteValue.parts (.agg #[.pointer (some ⟨1, 59, none⟩), .pointer (some a), .int .u64 150])).run Tryd.prog w = .ok (some (59, a, 150)) w := by kernel_rfl
/-- (Value).IsNil at the Value of a **p.E that is not nil. -/
theorem TasisNil27 (a p : Addr) (W : World) (ha : W.cell? a = some (.pointer (some p))) :
    (ReflectliteValue.method (ReflectliteValue.valueError "reflectlite.Value.IsNil" 0) ReflectliteValue.isNil #[.agg #[.pointer (some ⟨1, 59, none⟩), .pointer (some a), .int .u64 150]]).run Tryd.prog W = .ok (.bool false) W := by
  rw [rlm]
  simp only [Sem.run_bind, Tasparts27, Result.andThen]
  simp [ReflectliteValue.isNil, loadVar, isAgg, underlying, Tryd.underlying59, ha, Result.andThen]

theorem TasmethodElem (h : Value) (w : World) : (Go.method 217 61 (.agg #[h]) "Elem").run Tryd.prog w = .ok (61, .agg #[h]) w := by kernel_rfl
theorem TasmethodImplements (h : Value) (w : World) : (Go.method 217 61 (.agg #[h]) "Implements").run Tryd.prog w = .ok (62, .agg #[h]) w := by kernel_rfl
theorem TasmethodAssignableTo (h : Value) (w : World) : (Go.method 217 61 (.agg #[h]) "AssignableTo").run Tryd.prog w = .ok (59, .agg #[h]) w := by kernel_rfl
theorem Taselem27 (w : World) : (ReflectliteType.method ReflectliteType.elem #[.agg #[.pointer (some ⟨1, 59, none⟩)]]).run Tryd.prog w = .ok (.iface 61 (.agg #[.pointer (some ⟨1, 46, none⟩)])) w := by kernel_rfl
theorem Tasimplements25 (w : World) : (ReflectliteType.relation "Implements" ReflectliteType.implements_ #[.agg #[.pointer (some ⟨1, 46, none⟩)], .iface 61 (.agg #[.pointer (some ⟨1, 52, none⟩)])]).run Tryd.prog w = .ok (.bool true) w := by kernel_rfl
theorem TastypeOf25 (v : Value) (w : World) : (ReflectliteType.typeOf #[.iface 46 v]).run Tryd.prog w = .ok (.iface 61 (.agg #[.pointer (some ⟨1, 46, none⟩)])) w := by kernel_rfl
theorem Tasassignable25 (w : World) : (ReflectliteType.relation "AssignableTo" ReflectliteType.assignableTo #[.agg #[.pointer (some ⟨1, 46, none⟩)], .iface 61 (.agg #[.pointer (some ⟨1, 46, none⟩)])]).run Tryd.prog w = .ok (.bool true) w := by kernel_rfl
theorem TasvalueOf25 (e : Value) (w : World) : (ReflectliteValue.unpack (.iface 46 (.agg #[e]))).run Tryd.prog w
    = .ok (.agg #[.pointer (some ⟨1, 46, none⟩), .pointer (some ⟨w.heap.size, 0, none⟩), .int .u64 153]) (w.alloc (.cells #[e] 46)) := by kernel_rfl

theorem TaselemOf27 (w : World) : (Rtype.elem? 59).run Tryd.prog w = .ok (some 46) w := by kernel_rfl
theorem Tasmk25 (p : Addr) (w : World) : (ReflectliteValue.mk 46 p ReflectliteValue.flagAddr).run Tryd.prog w = .ok (.agg #[.pointer (some ⟨1, 46, none⟩), .pointer (some p), .int .u64 409]) w := by kernel_rfl
/-- (Value).Elem at the Value of a **p.E that is not nil: the Value of the *p.E variable that it points to, addressable. -/
theorem TaselemV27 (a p : Addr) (W : World) (ha : W.cell? a = some (.pointer (some p))) :
    (ReflectliteValue.method (ReflectliteValue.valueError "reflectlite.Value.Elem" 0) ReflectliteValue.elem #[.agg #[.pointer (some ⟨1, 59, none⟩), .pointer (some a), .int .u64 150]]).run Tryd.prog W
      = .ok (.agg #[.pointer (some ⟨1, 46, none⟩), .pointer (some p), .int .u64 409]) W := by
  rw [rlm]
  simp only [Sem.run_bind, Tasparts27, Result.andThen]
  simp [ReflectliteValue.elem, loadVar, isAgg, underlying, Tryd.underlying59, ha, Result.andThen, TaselemOf27, Tasmk25]
theorem rls (v x : Value) : ReflectliteValue.set #[v, x] = (do
    let (some (dst, a, fl), some (src, b, _)) := (← ReflectliteValue.parts v, ← ReflectliteValue.parts x)
      | unsupported (.noEntry "extern/(internal/reflectlite.Value).Set.zeroValue")
    if fl / ReflectliteValue.flagAddr % 2 == 0 then unsupported (.noEntry "extern/(internal/reflectlite.Value).Set.unaddressable")
    let val ← loadVar src b
    if ← Rtype.directlyAssignable dst src then storeVar dst a val
    else if ← Rtype.implements dst src then
      if (← Rtype.kind src) == 20 then
        match val with
        | .nilIface => unsupported (.noEntry "extern/reflectlite: a nil value of one interface type handed on as a value of another")
        | _ => storeVar dst a val
      else storeVar dst a (.iface src val)
    else panicString ("reflectlite.Set: value of type " ++ (← Rtype.spelt src) ++ " is not assignable to type " ++ (← Rtype.spelt dst))
    pure (.tuple #[])) := rfl
theorem Tasparts25a (a : Addr) (w : World) : (ReflectliteValue.parts (.agg #[.pointer (some ⟨1, 46, none⟩), .pointer (some a), .int .u64 409])).run Tryd.prog w = .ok (some (46, a, 409)) w := by kernel_rfl
theorem Tasparts25 (a : Addr) (w : World) : (ReflectliteValue.parts (.agg #[.pointer (some ⟨1, 46, none⟩), .pointer (some a), .int .u64 153])).run Tryd.prog w = .ok (some (46, a, 153)) w := by kernel_rfl
theorem Tasdirect25 (w : World) : (Rtype.directlyAssignable 46 46).run Tryd.prog w = .ok true w := by kernel_rfl
theorem Tassize25 (w : World) : (sizeOf 46).run Tryd.prog w = .ok 1 w := by kernel_rfl
theorem Tasloadc (b : Addr) (e : Value) (W : World) (hb : W.cell? b = some e) : (loadCells b 1).run Tryd.prog W = .ok #[e] W := by
  simp [loadCells, loadCellsFrom, hb, Result.andThen, Addr.add]
theorem Tasagg (w : World) : (isAgg 46).run Tryd.prog w = .ok true w := by kernel_rfl
theorem Tasloadv (b : Addr) (e : Value) (W : World) (hb : W.cell? b = some e) : (loadVar 46 b).run Tryd.prog W = .ok (.agg #[e]) W := by
  simp only [loadVar, Sem.run_bind, Tasagg, Tassize25, Result.andThen]
  simp [Tassize25, Tasloadc b e W hb, Result.andThen]
/-- (Value).Set: the *p.E variable at 'ta' gets what the Value's own variable 'b' holds. -/
theorem Tasset25 (ta b : Addr) (e old : Value) (he1 : e.oneCell' = true) (W : World) (hb : W.cell? b = some e) (ht : W.cell? ta = some old) (hf : W.frozen? ta = false) :
    (ReflectliteValue.set #[.agg #[.pointer (some ⟨1, 46, none⟩), .pointer (some ta), .int .u64 409], .agg #[.pointer (some ⟨1, 46, none⟩), .pointer (some b), .int .u64 153]]).run Tryd.prog W
      = .ok (.tuple #[]) (W.setCell ta e) := by
  rw [rls]
  simp only [Sem.run_bind, Tasparts25a, Tasparts25, Result.andThen]
  simp [ReflectliteValue.flagAddr, Tasloadv b e W hb, Result.andThen, Tasdirect25, storeVar, Tassize25, Value.cells, storeCells, Addr.add]
  rw [run_store Tryd.prog W ta _ _ he1]
  simp [ht, hf]

set_option maxHeartbeats 4000000 in
theorem as_hit (e : Value) (he1 : e.oneCell' = true) (t : Addr) (old : Value) (w : World) (hg : w.cell? ⟨0, 0, none⟩ = some (.iface 61 (.agg #[.pointer (some ⟨1, 52, none⟩)]))) (ht0 : w.cell? t = some old) (hf0 : w.frozen? t = false) :
    Calls Tryd.prog 29 #[.iface 46 (.agg #[e]), .iface 59 (.pointer (some t))] w fun ev w' => ev = .returned (.bool true) ∧ w' = ((((w.alloc (.cells #[.pointer (some t)] 59)).alloc (.cells #[.pointer (some ⟨1, 59, none⟩), .pointer (some ⟨w.heap.size, 0, none⟩), .int .u64 150] 74)).alloc (.cells #[.pointer (some ⟨1, 59, none⟩), .pointer (some ⟨w.heap.size, 0, none⟩), .int .u64 150] 74)).alloc (.cells #[e] 46)).setCell t e := by
  have h6 := @run_callFunc_extern Tryd.prog 31 _ (fun args => ReflectliteValue.unpack (args.getD 0 (.tuple #[]))) Tryd.func31 (by kernel_rfl) (by kernel_rfl) (by kernel_rfl) (by kernel_rfl)
  have h7 := @run_callFunc_extern Tryd.prog 32 _ (ReflectliteValue.methodAny (ReflectliteValue.valueError "reflectlite.Value.Type" 0) (fun t _ _ _ => ReflectliteType.toType t)) Tryd.func32 (by kernel_rfl) (by kernel_rfl) (by kernel_rfl) (by kernel_rfl)
  have h8 := @run_callFunc_extern Tryd.prog 33 _ (ReflectliteValue.method (ReflectliteValue.valueError "reflectlite.Value.IsNil" 0) ReflectliteValue.isNil) Tryd.func33 (by kernel_rfl) (by kernel_rfl) (by kernel_rfl) (by kernel_rfl)
  have h27 := @run_callFunc_extern Tryd.prog 51 _ (ReflectliteType.abiMethod fun t => do pure (.int .u8 (← Rtype.kind t))) Tryd.func51 (by kernel_rfl) (by kernel_rfl) (by kernel_rfl) (by kernel_rfl)
  have h37 := @run_callFunc_extern Tryd.prog 61 _ (ReflectliteType.method ReflectliteType.elem) Tryd.func61 (by kernel_rfl) (by kernel_rfl) (by kernel_rfl) (by kernel_rfl)
  have h38 := @run_callFunc_extern Tryd.prog 62 _ (ReflectliteType.relation "Implements" ReflectliteType.implements_) Tryd.func62 (by kernel_rfl) (by kernel_rfl) (by kernel_rfl) (by kernel_rfl)
  have h10 := @run_callFunc_extern Tryd.prog 27 _ ReflectliteType.typeOf Tryd.func27 (by kernel_rfl) (by kernel_rfl) (by kernel_rfl) (by kernel_rfl)
  have h35 := @run_callFunc_extern Tryd.prog 59 _ (ReflectliteType.relation "AssignableTo" ReflectliteType.assignableTo) Tryd.func59 (by kernel_rfl) (by kernel_rfl) (by kernel_rfl) (by kernel_rfl)
  have h11 := @run_callFunc_extern Tryd.prog 35 _ (ReflectliteValue.method (ReflectliteValue.valueError "reflectlite.Value.Elem" 0) ReflectliteValue.elem) Tryd.func35 (by kernel_rfl) (by kernel_rfl) (by kernel_rfl) (by kernel_rfl)
  have h12 := @run_callFunc_extern Tryd.prog 36 _ ReflectliteValue.set Tryd.func36 (by kernel_rfl) (by kernel_rfl) (by kernel_rfl) (by kernel_rfl)
  have tO := TastypeOf25
  have mA := TasmethodAssignableTo
  have a25 := Tasassignable25
  have v25 := TasvalueOf25
  have f6 := TasvalueOf27
  have f7 := Tastype27
  have mK := TasmethodKind
  have mE := TasmethodElem
  have mI := TasmethodImplements
  have k27 := Taskind27
  have k25 := Taskind25
  have e27 := Taselem27
  have i25 := Tasimplements25
  have n8 := TasisNil27 ⟨w.heap.size, 0, none⟩ t ((w.alloc (.cells #[.pointer (some t)] 59)).alloc (.cells #[.pointer (some ⟨1, 59, none⟩), .pointer (some ⟨w.heap.size, 0, none⟩), .int .u64 150] 74)) (by simp)
  have hlt : 0 < w.heap.size := by
    rcases Nat.eq_zero_or_pos w.heap.size with h0 | h
    · simp [World.cell?, h0] at hg
    · exact h
  have hg2 : ((w.alloc (.cells #[.pointer (some t)] 59)).alloc (.cells #[.pointer (some ⟨1, 59, none⟩), .pointer (some ⟨w.heap.size, 0, none⟩), .int .u64 150] 74)).cell? ⟨0, 0, none⟩ = some (.iface 61 (.agg #[.pointer (some ⟨1, 52, none⟩)])) := by
    rw [World.cell?_alloc_lt _ _ ⟨0, 0, none⟩ (by simp), World.cell?_alloc_lt _ _ ⟨0, 0, none⟩ hlt]; exact hg
  have htl : t.block < w.heap.size := by
    rcases Nat.lt_or_ge t.block w.heap.size with h | h
    · exact h
    · simp [World.cell?, Array.getElem?_eq_none h] at ht0
  have el := TaselemV27 ⟨w.heap.size, 0, none⟩ t (((w.alloc (.cells #[.pointer (some t)] 59)).alloc (.cells #[.pointer (some ⟨1, 59, none⟩), .pointer (some ⟨w.heap.size, 0, none⟩), .int .u64 150] 74)).alloc (.cells #[.pointer (some ⟨1, 59, none⟩), .pointer (some ⟨w.heap.size, 0, none⟩), .int .u64 150] 74)) (by rw [World.cell?_alloc_lt _ _ ⟨w.heap.size, 0, none⟩ (by simp; omega)]; simp)
  have st := Tasset25 t ⟨w.heap.size + 1 + 1 + 1, 0, none⟩ e old he1 ((((w.alloc (.cells #[.pointer (some t)] 59)).alloc (.cells #[.pointer (some ⟨1, 59, none⟩), .pointer (some ⟨w.heap.size, 0, none⟩), .int .u64 150] 74)).alloc (.cells #[.pointer (some ⟨1, 59, none⟩), .pointer (some ⟨w.heap.size, 0, none⟩), .int .u64 150] 74)).alloc (.cells #[e] 46))
    (by rw [World.cell?_alloc_at _ _ _ _ (by simp)]; rfl)
    (by rw [World.cell?_alloc_lt _ _ t (by simp; omega), World.cell?_alloc_lt _ _ t (by simp; omega), World.cell?_alloc_lt _ _ t (by simp; omega), World.cell?_alloc_lt _ _ t htl]; exact ht0)
    (by rw [World.frozen?_alloc_old _ _ t (by simp; omega), World.frozen?_alloc_old _ _ t (by simp; omega), World.frozen?_alloc_old _ _ t (by simp; omega), World.frozen?_alloc_old _ _ t (Nat.ne_of_lt htl)]; exact hf0)
  go_enter Tryd.func29, Tryd.ntmps29
  go_wp2
  refine wp_loop_rounds 1 ?_
  rw [rounds_succ]
  go_wp2
  go_ret
  exact ⟨rfl, rfl⟩
end Go.Proofs.Fas
