/- The number of an error, as errors.As finds it. -/
import Derived.Test.YtimlalndjfmnbaaDoorNum4
namespace Go.Proofs.YtimlalndjfmnbaaDoor
open BoEng Go
open Go.RowKit Go.Extern.Stop Go.Stop Go.Extern
set_option linter.unusedSimpArgs false
set_option linter.unusedVariables false

set_option maxHeartbeats 4000000 in
theorem n4W3 (wh : List UInt8) (w : World) (hg : w.cell? ⟨0, 0, none⟩ = some (.int .i64 2)) (hg2 : w.cell? ⟨1, 0, none⟩ = some (.iface 136 (.agg #[.pointer (some ⟨2, 69, none⟩)]))) :
    Calls Tryd.prog 41 #[errW wh 3] w fun e w' => e = .returned (.int .i64 3) ∧ w'.os = w.os ∧ w'.tape = w.tape ∧ w'.output = w.output ∧ w.heap.size ≤ w'.heap.size ∧ ∀ b, b < w.heap.size → w'.heap[b]? = w.heap[b]? := by
  unfold errW
  have hlt : 1 < w.heap.size := cell_lt hg2
  have hA := n3as_met ⟨wh.toArray⟩ ⟨(w.alloc (.cells #[.string ⟨wh.toArray⟩, .iface 101 (.agg #[.int .i64 3])] 117)).heap.size, 0, none⟩ (.int .i64 0) ((w.alloc (.cells #[.string ⟨wh.toArray⟩, .iface 101 (.agg #[.int .i64 3])] 117)).alloc (.cells #[.int .i64 0] 101))
    (by rw [World.cell?_alloc_lt _ _ ⟨1, 0, none⟩ (by simp; omega), World.cell?_alloc_lt _ _ ⟨1, 0, none⟩ hlt]; exact hg2) (by simp) (by simp)
  simp only [World.size_alloc] at hA
  go_enter Tryd.func41, Tryd.ntmps41
  go_wp2_with (first | (go_at_call 60; refine (n2is_met3 _ _).mono ?_; rintro e w' ⟨rfl, rfl⟩) | (go_at_call 61; refine hA.mono ?_; rintro e w' ⟨rfl, rfl⟩))
  go_ret
  refine ⟨rfl, rfl, rfl, rfl, by simp; omega, fun b hb => ?_⟩
  have ho : ∀ (W : World) (o : Obj), w.heap.size ≤ W.heap.size → (W.alloc o).heap[b]? = W.heap[b]? := fun W o h => by
    simp only [World.alloc]
    rw [Array.getElem?_push, if_neg (by omega)]
  repeat rw [ho _ _ (by simp <;> omega)]

theorem msgNumber (v : Value) (n : Int) (hv : ErrIs v n) (hn : n ≠ 0) : Holds Tryd.prog 41 [.d (.opq v)] (.d (.int .i64 n)) (fun _ => false) := by
  have hG : ∀ w, GOk Tryd.prog w → w.cell? ⟨0, 0, none⟩ = some (.int .i64 2) ∧ w.cell? ⟨1, 0, none⟩ = some (.iface 136 (.agg #[.pointer (some ⟨2, 69, none⟩)])) := fun w h =>
    ⟨(h 0 [.int .i64 2] (by kernel_rfl)).2 0 _ rfl, (h 1 [.iface 136 (.agg #[.pointer (some ⟨2, 69, none⟩)])] (by kernel_rfl)).2 0 _ rfl⟩
  have hfn : ∃ fn c, Tryd.prog.funcs[41]? = some fn ∧ (fn.name == "runtime.NumGoroutine") = false ∧ fn.body = some c := ⟨_, _, Tryd.func41, by kernel_rfl, rfl⟩
  have ha : ∀ (w : World) (o : Obj), w.heap.size ≤ (w.alloc o).heap.size ∧ ∀ b, b < w.heap.size → (w.alloc o).heap[b]? = w.heap[b]? := fun w o => ⟨by simp, fun b hb => by
    simp only [World.alloc]
    rw [Array.getElem?_push, if_neg (by omega)]⟩
  refine holds_opq hfn fun w hg => ?_
  obtain ⟨h1, h2⟩ := hG w hg
  rcases hv with h | h | h
  · exact absurd h.1 hn
  · obtain ⟨rfl, rfl⟩ := h
    refine (n4F w h1).mono fun e w' ⟨he, hw⟩ => ?_
    subst hw
    exact ⟨he, rfl, rfl, rfl, Nat.le_refl _, fun _ _ => rfl⟩
  · obtain ⟨h3, wh, rfl⟩ := h
    rcases h3 with rfl | rfl
    · refine (n4W2 wh w h1).mono fun e w' ⟨he, o, hw⟩ => ?_
      subst hw
      exact ⟨he, rfl, rfl, rfl, (ha w o).1, (ha w o).2⟩
    · exact n4W3 wh w h1 h2
end Go.Proofs.YtimlalndjfmnbaaDoor
