/- The number of an error. -/
import Derived.Test.YtimlalndjfmnbaaDoorNum3
namespace Go.Proofs.YtimlalndjfmnbaaDoor
open BoEng Go
open Go.RowKit Go.Extern.Stop Go.Stop Go.Extern
set_option linter.unusedSimpArgs false
set_option linter.unusedVariables false

/-- What a walk in the model's own steps makes of a contract: an opaque value in, a number out. -/
theorem holds_opq {P : Program} {f : FuncId} {v : Value} {k : IntKind} {n : Int} (hfn : ∃ fn c, P.funcs[f]? = some fn ∧ (fn.name == "runtime.NumGoroutine") = false ∧ fn.body = some c)
    (h : ∀ w, GOk P w → Calls P f #[v] w fun e w' => e = .returned (.int k n) ∧ w'.os = w.os ∧ w'.tape = w.tape ∧ w'.output = w.output ∧ w.heap.size ≤ w'.heap.size ∧ ∀ b, b < w.heap.size → w'.heap[b]? = w.heap[b]?) :
    Holds P f [.d (.opq v)] (.d (.int k n)) (fun _ => false) := by
  refine ⟨hfn, rfl, fun vs w fr hvs hfrb hgo hrep => ?_⟩
  have hv : vs = #[v] := by
    have h0 : 0 < vs.size := by rw [hvs]; exact Nat.zero_lt_one
    have h1 := hrep 0 _ _ (Array.getElem?_eq_getElem h0) rfl
    have h2 := inv_d h1
    have h3 : vs[0] = v := by
      generalize vs[0] = u at h2
      cases h2 with | opq v hb h1 => rfl
    apply Array.ext
    · simpa using hvs
    · intro i h1 h2
      have : i = 0 := by simp at h2; omega
      subst this
      simpa using h3
  subst hv
  refine (h w hgo).mono fun e w' ⟨he, ho, ht, hu, hs, hb⟩ => ?_
  refine ⟨_, fr, ⟨fun i => if i = 0 then .d (.int k n) else .undef, fun _ => [], fun _ => 0, fun _ => false, FO⟩, fun _ => ⟨0, 0, false⟩, he, ?_, rfl, fun j hj => by cases hj⟩
  refine ⟨rfl, rfl, ho, ht, hu, hs, fun b f hf => Nat.lt_of_lt_of_le (hfrb b f hf) hs, fun b hbl _ => ⟨hb b hbl, rfl⟩, fun _ h => h.elim, fun i => ?_, fun n hn => by simp at hn, fun n m hn => by simp at hn, fun l hl => by simp at hl, fun n k hl => by simp at hl, fun l l' hl => by simp at hl, ?_⟩
  · by_cases hi : i = 0
    · subst hi
      exact .d _ _ (.int k n)
    · simp only [res, Array.getD_eq_getD_getElem?, if_neg hi]
      rw [Array.getElem?_eq_none (by simp; omega)]
      exact opq_undef
  · exact ⟨fun _ => Nat.le_refl _, fun m e h => rfl⟩

set_option maxHeartbeats 4000000 in
theorem n4F (w : World) (hg : w.cell? ⟨0, 0, none⟩ = some (.int .i64 2)) : Calls Tryd.prog 41 #[errF] w fun e w' => e = .returned (.int .i64 2) ∧ w' = w := by
  unfold errF
  go_enter Tryd.func41, Tryd.ntmps41
  go_wp2_with (first | (go_at_call 60; refine (n2is_same _).mono ?_; rintro e w' ⟨rfl, rfl⟩))
  go_ret
  exact ⟨rfl, rfl⟩
set_option maxHeartbeats 4000000 in
theorem n4W2 (wh : List UInt8) (w : World) (hg : w.cell? ⟨0, 0, none⟩ = some (.int .i64 2)) : Calls Tryd.prog 41 #[errW wh 2] w fun e w' => e = .returned (.int .i64 2) ∧ ∃ o, w' = w.alloc o := by
  unfold errW
  go_enter Tryd.func41, Tryd.ntmps41
  go_wp2_with (first | (go_at_call 60; refine (n2is_met2 _ _).mono ?_; rintro e w' ⟨rfl, rfl⟩))
  go_ret
  exact ⟨rfl, _, rfl⟩
end Go.Proofs.YtimlalndjfmnbaaDoor
