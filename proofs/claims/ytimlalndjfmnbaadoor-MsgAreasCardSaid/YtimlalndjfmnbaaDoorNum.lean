/- The number of an error: msg.number, by way of errors.Is and errors.As. -/
import Derived.Test.YtimlalndjfmnbaaDoorMsgO
import Derived.WalkKit
import Derived.LaidEql
import Derived.RowKitTokens
namespace Go.Proofs.YtimlalndjfmnbaaDoor
open BoEng Go
open Go.RowKit Go.Extern.Stop Go.Stop Go.Extern
set_option linter.unusedSimpArgs false
set_option linter.unusedVariables false

def n2left (want : Array (String × TypeId)) (i : TypeInfo) : List String := (want.toList.filter fun (name, sig) => !i.methods.any fun m => m.name == name && m.sig == sig).map (·.1)
theorem n2lacks {P : Program} {t a : TypeId} {z : Value} {want : Array (String × TypeId)} (hu : P.underlying a = some (.interface want)) (h : (P.info? t).map (fun i => (n2left want i).length) = some 1) (hz : (P.info? a).map (·.zero) = some (some z))
    (v : Value) (xT : TypeId) (w : World) : (Instr.typeAssert (.iface t v) xT a true).run P w = .ok (.tuple #[z, .bool false]) w := by
  obtain ⟨i, hi, hl⟩ := Option.map_eq_some_iff.1 h
  obtain ⟨j, hj, hz2⟩ := Option.map_eq_some_iff.1 hz
  obtain ⟨s, hl⟩ := List.length_eq_one_iff.1 hl
  have hm : (Instr.missingMethod want i.methods).isSome = true := by
    unfold n2left at hl
    simp only [Instr.missingMethod, hl, List.partition, List.partition.loop]
    split <;> rfl
  obtain ⟨m, hm⟩ := Option.isSome_iff_exists.1 hm
  simp [Instr.typeAssert, run_underlying hu, typeInfo, hi, hm, zeroValue, hj, hz2]
theorem n2has {P : Program} {t a : TypeId} {want : Array (String × TypeId)} (hu : P.underlying a = some (.interface want)) (h : (P.info? t).map (n2left want) = some []) (v : Value) (xT : TypeId) (w : World) :
    (Instr.typeAssert (.iface t v) xT a true).run P w = .ok (.tuple #[.iface t v, .bool true]) w := by
  obtain ⟨i, hi, hl⟩ := Option.map_eq_some_iff.1 h
  have hm : Instr.missingMethod want i.methods = none := by
    unfold n2left at hl
    simp only [Instr.missingMethod, hl]
    rfl
  simp [Instr.typeAssert, run_underlying hu, typeInfo, hi, hm]
theorem n2neq {P : Program} {ti : TypeId} {ms : Array (String × TypeId)} (tx ty : TypeId) (vx vy : Value) (hi : P.underlying ti = some (.interface ms)) (hne : tx ≠ ty) (w : World) :
    (binOp .eql ti (.iface tx vx) (.iface ty vy)).run P w = .ok (.bool false) w := by
  have h : ∀ d : Nat, (Op.equalIn (d + 1) ti (.iface tx vx) (.iface ty vy)).run P w = .ok false w := fun d => by simp [Op.equalIn, run_underlying hi, hne]
  simp [binOp, Op.equal, Op.maxDepth, h 9999]
theorem n2TypeOf (v : Value) (w : World) : (Extern.ReflectliteType.typeOf #[.iface 101 v]).run Tryd.prog w = .ok (.iface 136 (.agg #[.pointer (some ⟨2, 101, none⟩)])) w := by kernel_rfl
theorem n2Comparable (w : World) : (callFunc 124 #[.agg #[.pointer (some ⟨2, 101, none⟩)]]).run Tryd.prog w = .ok (.value (.bool true)) w := by
  have h := @run_callFunc_extern Tryd.prog 124 _ (Extern.ReflectliteType.method fun t => do Extern.Rtype.noPackHeld "Comparable" t; pure (.bool (← typeInfo t).comparable)) Tryd.func124 (by kernel_rfl) (by kernel_rfl) (by kernel_rfl) (by kernel_rfl)
  have h2 : ((Extern.ReflectliteType.method fun t => do Extern.Rtype.noPackHeld "Comparable" t; pure (.bool (← typeInfo t).comparable)) #[.agg #[.pointer (some ⟨2, 101, none⟩)]]).run Tryd.prog w = .ok (.bool true) w := by kernel_rfl
  exact (h _ w).trans (by rw [h2]; rfl)
theorem n2MethodComparable (v : Value) (w : World) : (Go.method 295 136 v "Comparable").run Tryd.prog w = .ok (124, v) w := by kernel_rfl
theorem n2noIs (v : Value) (xT : TypeId) (w : World) : (Instr.typeAssert (.iface 101 v) xT 138 true).run Tryd.prog w = .ok (.tuple #[.nilIface, .bool false]) w := n2lacks Tryd.underlying138 (by kernel_rfl) (by kernel_rfl) v xT w
theorem n2noIsW (v : Value) (xT : TypeId) (w : World) : (Instr.typeAssert (.iface 117 v) xT 138 true).run Tryd.prog w = .ok (.tuple #[.nilIface, .bool false]) w := n2lacks Tryd.underlying138 (by kernel_rfl) (by kernel_rfl) v xT w
theorem n2noUnwrap (v : Value) (xT : TypeId) (w : World) : (Instr.typeAssert (.iface 101 v) xT 141 true).run Tryd.prog w = .ok (.tuple #[.nilIface, .bool false]) w := n2lacks Tryd.underlying141 (by kernel_rfl) (by kernel_rfl) v xT w
theorem n2noUnwraps (v : Value) (xT : TypeId) (w : World) : (Instr.typeAssert (.iface 101 v) xT 143 true).run Tryd.prog w = .ok (.tuple #[.nilIface, .bool false]) w := n2lacks Tryd.underlying143 (by kernel_rfl) (by kernel_rfl) v xT w
theorem n2hasUnwrap (v : Value) (xT : TypeId) (w : World) : (Instr.typeAssert (.iface 117 v) xT 141 true).run Tryd.prog w = .ok (.tuple #[.iface 117 v, .bool true]) w := n2has Tryd.underlying141 (by kernel_rfl) v xT w
theorem n2methodUnwrap (v : Value) (w : World) : (Go.method 295 117 v "Unwrap").run Tryd.prog w = .ok (118, v) w := by kernel_rfl
theorem n2eq22 (w : World) : (binOp .eql 69 (.iface 101 (.agg #[.int .i64 2])) (.iface 101 (.agg #[.int .i64 2]))).run Tryd.prog w = .ok (.bool true) w := by kernel_rfl
theorem n2eq32 (w : World) : (binOp .eql 69 (.iface 101 (.agg #[.int .i64 3])) (.iface 101 (.agg #[.int .i64 2]))).run Tryd.prog w = .ok (.bool false) w := by kernel_rfl

/-- errors.Is(errForm, errForm). -/
theorem n2is_same (w : World) : Calls Tryd.prog 60 #[.iface 101 (.agg #[.int .i64 2]), .iface 101 (.agg #[.int .i64 2])] w fun e w' => e = .returned (.bool true) ∧ w' = w := by
  have h8 := @run_callFunc_extern Tryd.prog 74 _ Extern.ReflectliteType.typeOf Tryd.func74 (by kernel_rfl) (by kernel_rfl) (by kernel_rfl) (by kernel_rfl)
  have tT := n2TypeOf
  have cT := n2Comparable
  have mR := n2MethodComparable
  have heq := n2eq22
  go_enter Tryd.func60, Tryd.ntmps60
  go_wp2
  refine wp_loop_rounds 1 ?_
  rw [rounds_succ]
  go_wp2
  go_ret
  exact ⟨rfl, rfl⟩

/-- errors.Is at an error that was met and wraps errForm. -/
theorem n2is_met2 (wh : ByteArray) (w : World) : Calls Tryd.prog 60 #[.iface 117 (.agg #[.string wh, .iface 101 (.agg #[.int .i64 2])]), .iface 101 (.agg #[.int .i64 2])] w fun e w' => e = .returned (.bool true) ∧ w' = w.alloc (.cells #[.string wh, .iface 101 (.agg #[.int .i64 2])] 117) := by
  have h8 := @run_callFunc_extern Tryd.prog 74 _ Extern.ReflectliteType.typeOf Tryd.func74 (by kernel_rfl) (by kernel_rfl) (by kernel_rfl) (by kernel_rfl)
  have tT := n2TypeOf
  have cT := n2Comparable
  have mR := n2MethodComparable
  have nE := n2noIs
  have uE := n2noUnwrap
  have vE := n2noUnwraps
  have nW := n2noIsW
  have uW := n2hasUnwrap
  have mU := n2methodUnwrap
  have heq := n2eq22
  have hty := n2neq (P := Tryd.prog) 117 101 (.agg #[.string wh, .iface 101 (.agg #[.int .i64 2])]) (.agg #[.int .i64 2]) Tryd.underlying69 (by decide) w
  go_enter Tryd.func60, Tryd.ntmps60
  go_wp2
  refine wp_loop_rounds 2 ?_
  rw [rounds_succ]
  go_wp2
  rw [rounds_succ]
  go_wp2
  go_ret
  exact ⟨rfl, rfl⟩
/-- errors.Is at an error that was met and wraps another one. -/
theorem n2is_met3 (wh : ByteArray) (w : World) : Calls Tryd.prog 60 #[.iface 117 (.agg #[.string wh, .iface 101 (.agg #[.int .i64 3])]), .iface 101 (.agg #[.int .i64 2])] w fun e w' => e = .returned (.bool false) ∧ w' = w.alloc (.cells #[.string wh, .iface 101 (.agg #[.int .i64 3])] 117) := by
  have h8 := @run_callFunc_extern Tryd.prog 74 _ Extern.ReflectliteType.typeOf Tryd.func74 (by kernel_rfl) (by kernel_rfl) (by kernel_rfl) (by kernel_rfl)
  have tT := n2TypeOf
  have cT := n2Comparable
  have mR := n2MethodComparable
  have nE := n2noIs
  have uE := n2noUnwrap
  have vE := n2noUnwraps
  have nW := n2noIsW
  have uW := n2hasUnwrap
  have mU := n2methodUnwrap
  have heq := n2eq32
  have hty := n2neq (P := Tryd.prog) 117 101 (.agg #[.string wh, .iface 101 (.agg #[.int .i64 3])]) (.agg #[.int .i64 2]) Tryd.underlying69 (by decide) w
  go_enter Tryd.func60, Tryd.ntmps60
  go_wp2
  refine wp_loop_rounds 2 ?_
  rw [rounds_succ]
  go_wp2
  rw [rounds_succ]
  go_wp2
  go_ret
  exact ⟨rfl, rfl⟩
end Go.Proofs.YtimlalndjfmnbaaDoor
