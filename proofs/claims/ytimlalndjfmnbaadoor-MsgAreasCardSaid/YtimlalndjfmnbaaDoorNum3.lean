/- errors.As at an error that was met. -/
import Derived.Test.YtimlalndjfmnbaaDoorNum2
namespace Go.Proofs.YtimlalndjfmnbaaDoor
open BoEng Go
open Go.RowKit Go.Extern.Stop Go.Stop Go.Extern
set_option linter.unusedSimpArgs false
set_option linter.unusedVariables false

def asW1 (t : Addr) (w : World) : World := (w.alloc (.cells #[.pointer (some t)] 103)).alloc (.cells #[.pointer (some ⟨2, 103, none⟩), .pointer (some ⟨w.heap.size, 0, none⟩), .int .u64 150] 126)
set_option maxHeartbeats 4000000 in
theorem n3as_met (wh : ByteArray) (t : Addr) (old : Value) (w : World) (hg : w.cell? ⟨1, 0, none⟩ = some (.iface 136 (.agg #[.pointer (some ⟨2, 69, none⟩)]))) (ht0 : w.cell? t = some old) (hf0 : w.frozen? t = false) :
    Calls Tryd.prog 61 #[.iface 117 (.agg #[.string wh, .iface 101 (.agg #[.int .i64 3])]), .iface 103 (.pointer (some t))] w fun ev w' => ev = .returned (.bool true) ∧ w' = (((((w.alloc (.cells #[.pointer (some t)] 103)).alloc (.cells #[.pointer (some ⟨2, 103, none⟩), .pointer (some ⟨w.heap.size, 0, none⟩), .int .u64 150] 126)).alloc (.cells #[.pointer (some ⟨2, 103, none⟩), .pointer (some ⟨w.heap.size, 0, none⟩), .int .u64 150] 126)).alloc (.cells #[.string wh, .iface 101 (.agg #[.int .i64 3])] 117)).alloc (.cells #[.int .i64 3] 101)).setCell t (.int .i64 3) := by
  have h6 := @run_callFunc_extern Tryd.prog 76 _ (fun args => ReflectliteValue.unpack (args.getD 0 (.tuple #[]))) Tryd.func76 (by kernel_rfl) (by kernel_rfl) (by kernel_rfl) (by kernel_rfl)
  have h7 := @run_callFunc_extern Tryd.prog 77 _ (ReflectliteValue.methodAny (ReflectliteValue.valueError "reflectlite.Value.Type" 0) (fun t _ _ _ => ReflectliteType.toType t)) Tryd.func77 (by kernel_rfl) (by kernel_rfl) (by kernel_rfl) (by kernel_rfl)
  have h8 := @run_callFunc_extern Tryd.prog 78 _ (ReflectliteValue.method (ReflectliteValue.valueError "reflectlite.Value.IsNil" 0) ReflectliteValue.isNil) Tryd.func78 (by kernel_rfl) (by kernel_rfl) (by kernel_rfl) (by kernel_rfl)
  have h27 := @run_callFunc_extern Tryd.prog 113 _ (ReflectliteType.abiMethod fun t => do pure (.int .u8 (← Rtype.kind t))) Tryd.func113 (by kernel_rfl) (by kernel_rfl) (by kernel_rfl) (by kernel_rfl)
  have h37 := @run_callFunc_extern Tryd.prog 125 _ (ReflectliteType.method ReflectliteType.elem) Tryd.func125 (by kernel_rfl) (by kernel_rfl) (by kernel_rfl) (by kernel_rfl)
  have h38 := @run_callFunc_extern Tryd.prog 126 _ (ReflectliteType.relation "Implements" ReflectliteType.implements_) Tryd.func126 (by kernel_rfl) (by kernel_rfl) (by kernel_rfl) (by kernel_rfl)
  have h10 := @run_callFunc_extern Tryd.prog 74 _ ReflectliteType.typeOf Tryd.func74 (by kernel_rfl) (by kernel_rfl) (by kernel_rfl) (by kernel_rfl)
  have h35 := @run_callFunc_extern Tryd.prog 123 _ (ReflectliteType.relation "AssignableTo" ReflectliteType.assignableTo) Tryd.func123 (by kernel_rfl) (by kernel_rfl) (by kernel_rfl) (by kernel_rfl)
  have h11 := @run_callFunc_extern Tryd.prog 84 _ (ReflectliteValue.method (ReflectliteValue.valueError "reflectlite.Value.Elem" 0) ReflectliteValue.elem) Tryd.func84 (by kernel_rfl) (by kernel_rfl) (by kernel_rfl) (by kernel_rfl)
  have h12 := @run_callFunc_extern Tryd.prog 85 _ ReflectliteValue.set Tryd.func85 (by kernel_rfl) (by kernel_rfl) (by kernel_rfl) (by kernel_rfl)
  have tO := n3typeOfW
  have tB := n2TypeOf
  have mA := n3methodAssignableTo
  have a1 := n3assignB
  have a2 := n3assignW
  have vB := n3valueOfB
  have f6 := n3valueOf
  have f7 := n3type
  have mK := n3methodKind
  have mE := n3methodElem
  have mI := n3methodImplements
  have k27 := n3kindP
  have k25 := n3kindB
  have e27 := n3elem
  have i25 := n3implements
  have nW : ∀ (v : Value) (xT : TypeId) (w : World), (Instr.typeAssert (.iface 117 v) xT 148 true).run Tryd.prog w = .ok (.tuple #[.nilIface, .bool false]) w := n2lacks Tryd.underlying148 (by kernel_rfl) (by kernel_rfl)
  have uW := n2hasUnwrap
  have mU := n2methodUnwrap
  have n8 := n3isNil ⟨w.heap.size, 0, none⟩ t (asW1 t w) (by
    unfold asW1
    rw [World.cell?_alloc_lt _ _ ⟨w.heap.size, 0, none⟩ (by simp)]; simp)
  have hlt : 1 < w.heap.size := cell_lt hg
  have hg2 : (asW1 t w).cell? ⟨1, 0, none⟩ = some (.iface 136 (.agg #[.pointer (some ⟨2, 69, none⟩)])) := by
    unfold asW1
    rw [World.cell?_alloc_lt _ _ ⟨1, 0, none⟩ (by simp; omega), World.cell?_alloc_lt _ _ ⟨1, 0, none⟩ hlt]; exact hg
  have htl : t.block < w.heap.size := by
    rcases Nat.lt_or_ge t.block w.heap.size with h | h
    · exact h
    · simp [World.cell?, Array.getElem?_eq_none h] at ht0
  unfold asW1 at n8 hg2
  have el := n3elemV ⟨w.heap.size, 0, none⟩ t ((((w.alloc (.cells #[.pointer (some t)] 103)).alloc (.cells #[.pointer (some ⟨2, 103, none⟩), .pointer (some ⟨w.heap.size, 0, none⟩), .int .u64 150] 126)).alloc (.cells #[.pointer (some ⟨2, 103, none⟩), .pointer (some ⟨w.heap.size, 0, none⟩), .int .u64 150] 126)).alloc (.cells #[.string wh, .iface 101 (.agg #[.int .i64 3])] 117)) (by rw [World.cell?_alloc_lt _ _ ⟨w.heap.size, 0, none⟩ (by simp; omega), World.cell?_alloc_lt _ _ ⟨w.heap.size, 0, none⟩ (by simp; omega)]; simp)
  have st := n3set t ⟨w.heap.size + 1 + 1 + 1 + 1, 0, none⟩ 3 old (((((w.alloc (.cells #[.pointer (some t)] 103)).alloc (.cells #[.pointer (some ⟨2, 103, none⟩), .pointer (some ⟨w.heap.size, 0, none⟩), .int .u64 150] 126)).alloc (.cells #[.pointer (some ⟨2, 103, none⟩), .pointer (some ⟨w.heap.size, 0, none⟩), .int .u64 150] 126)).alloc (.cells #[.string wh, .iface 101 (.agg #[.int .i64 3])] 117)).alloc (.cells #[.int .i64 3] 101))
    (by rw [World.cell?_alloc_at _ _ _ _ (by simp)]; rfl)
    (by rw [World.cell?_alloc_lt _ _ t (by simp; omega), World.cell?_alloc_lt _ _ t (by simp; omega), World.cell?_alloc_lt _ _ t (by simp; omega), World.cell?_alloc_lt _ _ t (by simp; omega), World.cell?_alloc_lt _ _ t htl]; exact ht0)
    (by rw [World.frozen?_alloc_old _ _ t (by simp; omega), World.frozen?_alloc_old _ _ t (by simp; omega), World.frozen?_alloc_old _ _ t (by simp; omega), World.frozen?_alloc_old _ _ t (by simp; omega), World.frozen?_alloc_old _ _ t (Nat.ne_of_lt htl)]; exact hf0)
  go_enter Tryd.func61, Tryd.ntmps61
  go_wp2
  refine wp_loop_rounds 2 ?_
  rw [rounds_succ]
  go_wp2
  rw [rounds_succ]
  go_wp2
  go_ret
  exact ⟨rfl, rfl⟩
end Go.Proofs.YtimlalndjfmnbaaDoor
