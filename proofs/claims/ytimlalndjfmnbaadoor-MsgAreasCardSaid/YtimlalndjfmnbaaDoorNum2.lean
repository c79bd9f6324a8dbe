/- errors.As at an error that was met, for a target that is a place of a 'bad'. -/
import Derived.Test.YtimlalndjfmnbaaDoorNum
namespace Go.Proofs.YtimlalndjfmnbaaDoor
open BoEng Go
open Go.RowKit Go.Extern.Stop Go.Stop Go.Extern
set_option linter.unusedSimpArgs false
set_option linter.unusedVariables false

theorem n3valueOf (t : Addr) (w : World) : (ReflectliteValue.unpack (.iface 103 (.pointer (some t)))).run Tryd.prog w
    = .ok (.agg #[.pointer (some ⟨2, 103, none⟩), .pointer (some ⟨w.heap.size, 0, none⟩), .int .u64 150]) (w.alloc (.cells #[.pointer (some t)] 103)) := by kernel_rfl
theorem n3type (a : Addr) (w : World) : (ReflectliteValue.methodAny (ReflectliteValue.valueError "reflectlite.Value.Type" 0) (fun t _ _ _ => ReflectliteType.toType t) #[.agg #[.pointer (some ⟨2, 103, none⟩), .pointer (some a), .int .u64 150]]).run Tryd.prog w
    = .ok (.iface 136 (.agg #[.pointer (some ⟨2, 103, none⟩)])) w := by kernel_rfl
theorem n3methodKind (h : Value) (w : World) : (Go.method 295 136 (.agg #[h]) "Kind").run Tryd.prog w = .ok (113, h) w := by kernel_rfl
theorem n3kindP (w : World) : ((ReflectliteType.abiMethod fun t => (fun a : Nat => Value.int IntKind.u8 (a : Int)) <$> Rtype.kind t) #[.pointer (some ⟨2, 103, none⟩)]).run Tryd.prog w = .ok (.int .u8 22) w := by kernel_rfl
theorem n3kindB (w : World) : ((ReflectliteType.abiMethod fun t => (fun a : Nat => Value.int IntKind.u8 (a : Int)) <$> Rtype.kind t) #[.pointer (some ⟨2, 101, none⟩)]).run Tryd.prog w = .ok (.int .u8 25) w := by kernel_rfl
theorem n3rlm (z : Sem Value) (f : TypeId → Addr → Nat → Nat → Sem Value) (v : Value) :
    ReflectliteValue.method z f #[v] = (do match ← ReflectliteValue.parts v with | none => z | some (t, a, fl) => f t a fl (fl % 32)) := rfl
theorem n3parts (a : Addr) (w : World) : (ReflectliteValue.parts (.agg #[.pointer (some ⟨2, 103, none⟩), .pointer (some a), .int .u64 150])).run Tryd.prog w = .ok (some (103, a, 150)) w := by kernel_rfl
theorem n3isNil (a p : Addr) (W : World) (ha : W.cell? a = some (.pointer (some p))) :
    (ReflectliteValue.method (ReflectliteValue.valueError "reflectlite.Value.IsNil" 0) ReflectliteValue.isNil #[.agg #[.pointer (some ⟨2, 103, none⟩), .pointer (some a), .int .u64 150]]).run Tryd.prog W = .ok (.bool false) W := by
  rw [n3rlm]
  simp only [Sem.run_bind, n3parts, Result.andThen]
  simp [ReflectliteValue.isNil, loadVar, isAgg, underlying, Tryd.underlying103, ha, Result.andThen]
theorem n3methodElem (h : Value) (w : World) : (Go.method 295 136 (.agg #[h]) "Elem").run Tryd.prog w = .ok (125, .agg #[h]) w := by kernel_rfl
theorem n3methodImplements (h : Value) (w : World) : (Go.method 295 136 (.agg #[h]) "Implements").run Tryd.prog w = .ok (126, .agg #[h]) w := by kernel_rfl
theorem n3methodAssignableTo (h : Value) (w : World) : (Go.method 295 136 (.agg #[h]) "AssignableTo").run Tryd.prog w = .ok (123, .agg #[h]) w := by kernel_rfl
theorem n3elem (w : World) : (ReflectliteType.method ReflectliteType.elem #[.agg #[.pointer (some ⟨2, 103, none⟩)]]).run Tryd.prog w = .ok (.iface 136 (.agg #[.pointer (some ⟨2, 101, none⟩)])) w := by kernel_rfl
theorem n3implements (w : World) : (ReflectliteType.relation "Implements" ReflectliteType.implements_ #[.agg #[.pointer (some ⟨2, 101, none⟩)], .iface 136 (.agg #[.pointer (some ⟨2, 69, none⟩)])]).run Tryd.prog w = .ok (.bool true) w := by kernel_rfl
theorem n3typeOfW (v : Value) (w : World) : (ReflectliteType.typeOf #[.iface 117 v]).run Tryd.prog w = .ok (.iface 136 (.agg #[.pointer (some ⟨2, 117, none⟩)])) w := by kernel_rfl
theorem n3assignB (w : World) : (ReflectliteType.relation "AssignableTo" ReflectliteType.assignableTo #[.agg #[.pointer (some ⟨2, 101, none⟩)], .iface 136 (.agg #[.pointer (some ⟨2, 101, none⟩)])]).run Tryd.prog w = .ok (.bool true) w := by kernel_rfl
theorem n3assignW (w : World) : (ReflectliteType.relation "AssignableTo" ReflectliteType.assignableTo #[.agg #[.pointer (some ⟨2, 117, none⟩)], .iface 136 (.agg #[.pointer (some ⟨2, 101, none⟩)])]).run Tryd.prog w = .ok (.bool false) w := by kernel_rfl
theorem n3valueOfB (n : Int) (w : World) : (ReflectliteValue.unpack (.iface 101 (.agg #[.int .i64 n]))).run Tryd.prog w
    = .ok (.agg #[.pointer (some ⟨2, 101, none⟩), .pointer (some ⟨w.heap.size, 0, none⟩), .int .u64 153]) (w.alloc (.cells #[.int .i64 n] 101)) := by kernel_rfl
theorem n3elemOf (w : World) : (Rtype.elem? 103).run Tryd.prog w = .ok (some 101) w := by kernel_rfl
theorem n3mk (p : Addr) (w : World) : (ReflectliteValue.mk 101 p ReflectliteValue.flagAddr).run Tryd.prog w = .ok (.agg #[.pointer (some ⟨2, 101, none⟩), .pointer (some p), .int .u64 409]) w := by kernel_rfl
theorem n3elemV (a p : Addr) (W : World) (ha : W.cell? a = some (.pointer (some p))) :
    (ReflectliteValue.method (ReflectliteValue.valueError "reflectlite.Value.Elem" 0) ReflectliteValue.elem #[.agg #[.pointer (some ⟨2, 103, none⟩), .pointer (some a), .int .u64 150]]).run Tryd.prog W
      = .ok (.agg #[.pointer (some ⟨2, 101, none⟩), .pointer (some p), .int .u64 409]) W := by
  rw [n3rlm]
  simp only [Sem.run_bind, n3parts, Result.andThen]
  simp [ReflectliteValue.elem, loadVar, isAgg, underlying, Tryd.underlying103, ha, Result.andThen, n3elemOf, n3mk]
theorem n3rls (v x : Value) : ReflectliteValue.set #[v, x] = (do
    let (some (dst, a, fl), some (src, b, _)) := (← ReflectliteValue.parts v, ← ReflectliteValue.parts x)
      | unsupported (.noEntry "extern/(internal/reflectlite.Value).Set.zeroValue")
    if fl / ReflectliteValue.flagAddr % 2 == 0 then unsupported (.noEntry "extern/(internal/reflectlite.Value).Set.unaddressable")
    let val ← loadVar src b
    if ← Rtype.directlyAssignable dst src then storeVar dst a val
    else if ← Rtype.implements dst src then
      if (← Rtype.kind src) == 20 then
        match val with
        | .nilIface => unsupported (.noEntry "extern/reflectlite: a nil value of one interface type handed on as a value of another")
        | _ => storeVar dst a val
      else storeVar dst a (.iface src val)
    else panicString ("reflectlite.Set: value of type " ++ (← Rtype.spelt src) ++ " is not assignable to type " ++ (← Rtype.spelt dst))
    pure (.tuple #[])) := rfl
theorem n3partsA (a : Addr) (w : World) : (ReflectliteValue.parts (.agg #[.pointer (some ⟨2, 101, none⟩), .pointer (some a), .int .u64 409])).run Tryd.prog w = .ok (some (101, a, 409)) w := by kernel_rfl
theorem n3partsB (a : Addr) (w : World) : (ReflectliteValue.parts (.agg #[.pointer (some ⟨2, 101, none⟩), .pointer (some a), .int .u64 153])).run Tryd.prog w = .ok (some (101, a, 153)) w := by kernel_rfl
theorem n3direct (w : World) : (Rtype.directlyAssignable 101 101).run Tryd.prog w = .ok true w := by kernel_rfl
theorem n3size (w : World) : (sizeOf 101).run Tryd.prog w = .ok 1 w := by kernel_rfl
theorem n3set (ta b : Addr) (n : Int) (old : Value) (W : World) (hb : W.cell? b = some (.int .i64 n)) (ht : W.cell? ta = some old) (hf : W.frozen? ta = false) :
    (ReflectliteValue.set #[.agg #[.pointer (some ⟨2, 101, none⟩), .pointer (some ta), .int .u64 409], .agg #[.pointer (some ⟨2, 101, none⟩), .pointer (some b), .int .u64 153]]).run Tryd.prog W
      = .ok (.tuple #[]) (W.setCell ta (.int .i64 n)) := by
  rw [n3rls]
  simp only [Sem.run_bind, n3partsA, n3partsB, Result.andThen]
  simp [ReflectliteValue.flagAddr, loadVar, isAgg, underlying, Tryd.underlying101, hb, Result.andThen, n3direct, storeVar, Value.cells, storeCells, Addr.add, n3size, loadCells, loadCellsFrom]
  rw [run_store Tryd.prog W ta _ _ (by rfl)]
  simp [ht, hf]
end Go.Proofs.YtimlalndjfmnbaaDoor
