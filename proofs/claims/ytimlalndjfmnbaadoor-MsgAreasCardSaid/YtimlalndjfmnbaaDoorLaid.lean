/- What the rows' condition on the laid variables gives: the cells of the two variables. -/
import Derived.Test.YtimlalndjfmnbaaDoorRows
import Derived.Test.YtimlalndjfmnbaaDoorTy
import Derived.LaidLaws
import Derived.LaidHandle
import Derived.FnData
import Derived.WalkKit
import Derived.ProofKit
namespace Go.Proofs.YtimlalndjfmnbaaDoor
open BoEng Go Go.RowKit Go.ChangeShapes Go.WideShapes Go.ChangeAt
set_option maxRecDepth 100000
set_option linter.unusedVariables false

def laidL : List (String × DataW Unit) := [("errors.errorType", Rows.laid_errors_errorType), ("boarder/msg.errForm", Rows.laid_boarder_msg_errForm)]
theorem lErr : Tryd.prog.globalNamed "errors.errorType" = some 1 := by kernel_rfl
theorem lForm : Tryd.prog.globalNamed "boarder/msg.errForm" = some 0 := by kernel_rfl
theorem lFormT : (Tryd.prog.globals[0]?).map (·.type) = some 101 := by kernel_rfl
theorem lRt : (Tryd.prog.cutTypes.find? (·.1 == "internal/reflectlite.rtype")).map (·.2) = some 136 := by kernel_rfl
theorem lOne : ((List.range 195).filter fun t => Tryd.prog.rowNamed t [101, 114, 114, 111, 114]) = [69] := by kernel_rfl
theorem lSize : Tryd.prog.types.size = 195 := by kernel_rfl
theorem lCells : Tryd.prog.cellsOf 101 = 1 := by kernel_rfl
theorem lCellsN : Tryd.prog.cellsOf 31 = 1 := by kernel_rfl

theorem form_cell {w : World} {fuel : Nat} {cs : List Value} {p : List MemPlace} (h : DataW.trod (fun _ => ()) Tryd.prog w 0 (fun _ => true) false fuel 101 cs = some (.agg [.lit (.int .i64 2)], p)) : cs = [.int .i64 2] := by
  cases fuel with
  | zero => simp [DataW.trod] at h
  | succ f =>
    simp only [DataW.trod, Tryd.underlying101] at h
    split at h
    · rename_i hl
      rw [lCells] at hl
      cases f with
      | zero => simp [DataW.trod] at h
      | succ f =>
        match cs, hl with
        | [c], _ =>
          cases c <;> simp [DataW.trod, Tryd.underlying31, lCellsN] at h
          split at h
          · rename_i hk
            simp at h
            rw [hk.1, h.1]
          · simp at h
    · cases h

theorem laid_handle {W : World} (h : laidMetH Tryd.prog laidL W) : W.cell? ⟨1, 0, none⟩ = some (.iface 136 (.agg #[.pointer (some ⟨2, 69, none⟩)])) := by
  have h' : laidMet Tryd.prog [("boarder/msg.errForm", Rows.laid_boarder_msg_errForm)] W ∧ handlesMet Tryd.prog [("errors.errorType", Rows.laid_errors_errorType)] W := h
  obtain ⟨name, u, ty, e1, e2, e3, e4, e5⟩ := h'.2 _ (List.mem_singleton.2 rfl)
  have en : name = [101, 114, 114, 111, 114] := (Option.some.inj e1).symm
  subst en
  obtain rfl := Option.some.inj (lRt.symm.trans e2)
  have hm : ty ∈ (List.range 195).filter fun t => Tryd.prog.rowNamed t [101, 114, 114, 111, 114] := List.mem_filter.2 ⟨List.mem_range.2 (by rw [← lSize]; exact e3), e4⟩
  rw [lOne] at hm
  obtain rfl := List.mem_singleton.1 hm
  have hh : typeHandle Tryd.prog 69 = .pointer (some ⟨2, 69, none⟩) := by kernel_rfl
  rw [hh] at e5
  simpa using World.var?_cell lErr e5 0
theorem laid_form {W : World} (h : laidMetH Tryd.prog laidL W) : W.cell? ⟨0, 0, none⟩ = some (.int .i64 2) := by
  have h' : laidMet Tryd.prog [("boarder/msg.errForm", Rows.laid_boarder_msg_errForm)] W ∧ handlesMet Tryd.prog [("errors.errorType", Rows.laid_errors_errorType)] W := h
  obtain ⟨ps, ⟨g, t, cs, fuel, p, q, e1, e2, e3, e4, e5, e6⟩, _⟩ := h'.1
  obtain rfl := Option.some.inj (lForm.symm.trans e1)
  obtain rfl := Option.some.inj (lFormT.symm.trans e2)
  have hc := form_cell e4
  have hc2 : cs = #[.int .i64 2] := Array.eq_one_of_toList hc
  subst hc2
  simpa using World.var?_cell lForm e3 0
theorem laid_ok {W : World} (h : laidMetH Tryd.prog laidL W) : GOk Tryd.prog W := by
  intro g cs hg
  have h1 := laid_handle h
  have h2 := laid_form h
  have hlt : g < 2 := by
    by_cases hl : g < Tryd.prog.globals.size
    · exact Nat.lt_of_lt_of_eq hl (by kernel_rfl)
    · unfold gCells at hg
      rw [Array.getElem?_eq_none (by omega)] at hg
      cases hg
  have c0 : gCells Tryd.prog 0 = some [.int .i64 2] := by kernel_rfl
  have c1 : gCells Tryd.prog 1 = some [.iface 136 (.agg #[.pointer (some ⟨2, 69, none⟩)])] := by kernel_rfl
  have h01 : g = 0 ∨ g = 1 := by omega
  rcases h01 with rfl | rfl
  · rw [c0] at hg
    obtain rfl := (Option.some.inj hg).symm
    refine ⟨by simp, fun k u hk => ?_⟩
    match k, hk with
    | 0, hk => cases hk; exact h2
    | k + 1, hk => simp at hk
  · rw [c1] at hg
    obtain rfl := (Option.some.inj hg).symm
    refine ⟨by simp, fun k u hk => ?_⟩
    match k, hk with
    | 0, hk => cases hk; exact h1
    | k + 1, hk => simp at hk
/-- A world that meets the condition: the settled one, the variables' cells laid. -/
noncomputable def laidWorld (os : Os) : World :=
  let w0 := World.holding Tryd.prog os ⟨#[], #[], []⟩
  { w0 with heap := (w0.heap.modify 0 fun
      | .cells _ t frozen => .cells #[.int .i64 2] t frozen
      | o => o).modify 1 fun
      | .cells _ t frozen => .cells #[.iface 136 (.agg #[.pointer (some ⟨2, 69, none⟩)])] t frozen
      | o => o }
theorem laidWorld_met (os : Os) (args : Array Value) : laidMetH Tryd.prog laidL ((laidWorld os).forCall (fun _ _ => 0) ⟨#[], args, []⟩).memory :=
  laidMetH_of_parts (laidMet_of_run' 8 (by kernel_rfl) (by kernel_rfl)) (by kernel_rfl)
end Go.Proofs.YtimlalndjfmnbaaDoor
