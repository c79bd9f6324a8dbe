/- What the laws of chapter 8 are made of: the program's disk as the document's; sizes; acts; the examples. -/
import Derived.Test.YtoamihggbaaohaaDiskU
namespace Go.Proofs.Ytoamihggbaaohaa
open BoEng Go
set_option maxRecDepth 100000
set_option linter.unusedSimpArgs false
set_option linter.unusedVariables false

theorem all_bad {α : Type} {p : α → Bool} {l : List α} {i : Nat} (h : i < l.length) (hp : p l[i] = false) : l.all p = false := by
  rw [List.all_eq_false]
  exact ⟨_, List.getElem_mem h, by simp [hp]⟩
theorem all_end {α : Type} {p : α → Bool} {l : List α} {i : Nat} (h : ¬ i < l.length) (ha : (l.take i).all p = true) : l.all p = true := by
  rwa [List.take_of_length_le (by omega)] at ha

def asI (k : Dk) (i j q : Nat) (S : PS) : Prop :=
  S.t 1 = .cptr (cells k.d) ∧ S.t 2 = .ptr (FO + 2) 1 0 ∧ S.t 3 = .ptr (FO + 3) 1 0 ∧ S.fo = FO ∧ S.gen (FO + 2) = 1 ∧ S.box (FO + 2) = [.d (.slice []), .d (.slice []), .d (.slice [])] ∧
    S.gen (FO + 3) = 1 ∧ S.box (FO + 3) = [.d (.slice ((k.files.take i).map FileD.d)), .d (.slice ((k.now.take j).map Ent.d)), .d (.slice ((k.kept.take q).map Ent.d))] ∧ S.own (.b (FO + 3) 0) = true ∧ S.own (.b (FO + 3) 1) = true ∧ S.own (.b (FO + 3) 2) = true
def as1 (k : Dk) (i : Nat) (S : PS) : Prop := i ≤ k.files.length ∧ S.t 4 = .d (.int .i64 i) ∧ asI k i 0 0 S
def as2 (k : Dk) (i : Nat) (S : PS) : Prop := i ≤ k.now.length ∧ S.t 5 = .d (.int .i64 i) ∧ asI k k.files.length i 0 S
def as3 (k : Dk) (i : Nat) (S : PS) : Prop := i ≤ k.kept.length ∧ S.t 6 = .d (.int .i64 i) ∧ asI k k.files.length k.now.length i S
theorem lawAs (k : Dk) (hk : sizedK k) : Holds Try.prog 11 [.d k.d] (.d k.d) (fun _ => false) := by
  refine Holds.by (by kernel_rfl) Try.func11 (by kernel_rfl) rfl [20001, 15, 40, 65] (by simp) (by kernel_rfl) (by kernel_rfl) rfl ?_
  conv in ccs _ => cbv
  obtain ⟨⟨hf, _⟩, ⟨hn, _⟩, ⟨hp, _⟩⟩ := hk
  simp -implicitDefEqProofs (disch := first | omega | (simp -implicitDefEqProofs <;> omega) | (simp -implicitDefEqProofs [*] <;> omega) | fail) [-List.map_take, -List.map_drop, -List.length_flatMap, map_take', map_drop', wrap_in, nth_nat, opt_if, dec_t, dec_f]
  refine lp (as1 k) (fun i => k.files.length - i) 0 ⟨by omega, by simp, by simp, by simp, by simp, by simp, by simp, by simp, by simp, by simp, by simp, by simp, by simp⟩ ?_
  rintro i S ⟨hi, e4, e1, e2, e3, efo, g2, b2, g3, b3, o0, o1, o2⟩
  by_cases hlt : i < k.files.length
  · have k6 : (i : Int) < k.files.length := by omega
    have ht : (k.files.take (i + 1)).map FileD.d = (k.files.take i).map FileD.d ++ [FileD.d k.files[i]] := by
      rw [List.take_succ_eq_append_getElem hlt, List.map_append]
      rfl
    simp -implicitDefEqProofs (disch := first | omega | (simp -implicitDefEqProofs <;> omega) | (simp -implicitDefEqProofs [*] <;> omega) | fail) [-List.map_take, -List.map_drop, -List.length_flatMap, map_take', map_drop', wrap_in, nth_nat, opt_if, dec_t, dec_f, e1, e2, e3, e4, efo, g2, b2, g3, b3, o0, o1, o2, k6]
    exact nxt_of (i + 1) ⟨by omega, by simp, by simp -implicitDefEqProofs (disch := first | omega | (simp -implicitDefEqProofs <;> omega) | (simp -implicitDefEqProofs [*] <;> omega) | fail) [-List.map_take, -List.map_drop, -List.length_flatMap, map_take', map_drop', wrap_in, nth_nat, opt_if, dec_t, dec_f, e1], by simp -implicitDefEqProofs (disch := first | omega | (simp -implicitDefEqProofs <;> omega) | (simp -implicitDefEqProofs [*] <;> omega) | fail) [-List.map_take, -List.map_drop, -List.length_flatMap, map_take', map_drop', wrap_in, nth_nat, opt_if, dec_t, dec_f, e2], by simp -implicitDefEqProofs (disch := first | omega | (simp -implicitDefEqProofs <;> omega) | (simp -implicitDefEqProofs [*] <;> omega) | fail) [-List.map_take, -List.map_drop, -List.length_flatMap, map_take', map_drop', wrap_in, nth_nat, opt_if, dec_t, dec_f, e3], by simp -implicitDefEqProofs (disch := first | omega | (simp -implicitDefEqProofs <;> omega) | (simp -implicitDefEqProofs [*] <;> omega) | fail) [-List.map_take, -List.map_drop, -List.length_flatMap, map_take', map_drop', wrap_in, nth_nat, opt_if, dec_t, dec_f, efo], by simp -implicitDefEqProofs (disch := first | omega | (simp -implicitDefEqProofs <;> omega) | (simp -implicitDefEqProofs [*] <;> omega) | fail) [-List.map_take, -List.map_drop, -List.length_flatMap, map_take', map_drop', wrap_in, nth_nat, opt_if, dec_t, dec_f, g2, efo], by simp -implicitDefEqProofs (disch := first | omega | (simp -implicitDefEqProofs <;> omega) | (simp -implicitDefEqProofs [*] <;> omega) | fail) [-List.map_take, -List.map_drop, -List.length_flatMap, map_take', map_drop', wrap_in, nth_nat, opt_if, dec_t, dec_f, b2, efo], by simp -implicitDefEqProofs (disch := first | omega | (simp -implicitDefEqProofs <;> omega) | (simp -implicitDefEqProofs [*] <;> omega) | fail) [-List.map_take, -List.map_drop, -List.length_flatMap, map_take', map_drop', wrap_in, nth_nat, opt_if, dec_t, dec_f, g3, efo], by rw [ht]; simp -implicitDefEqProofs (disch := first | omega | (simp -implicitDefEqProofs <;> omega) | (simp -implicitDefEqProofs [*] <;> omega) | fail) [-List.map_take, -List.map_drop, -List.length_flatMap, map_take', map_drop', wrap_in, nth_nat, opt_if, dec_t, dec_f, b3, efo, FileD.d], by simp -implicitDefEqProofs (disch := first | omega | (simp -implicitDefEqProofs <;> omega) | (simp -implicitDefEqProofs [*] <;> omega) | fail) [-List.map_take, -List.map_drop, -List.length_flatMap, map_take', map_drop', wrap_in, nth_nat, opt_if, dec_t, dec_f, o0, efo], by simp -implicitDefEqProofs (disch := first | omega | (simp -implicitDefEqProofs <;> omega) | (simp -implicitDefEqProofs [*] <;> omega) | fail) [-List.map_take, -List.map_drop, -List.length_flatMap, map_take', map_drop', wrap_in, nth_nat, opt_if, dec_t, dec_f, o1, efo], by simp -implicitDefEqProofs (disch := first | omega | (simp -implicitDefEqProofs <;> omega) | (simp -implicitDefEqProofs [*] <;> omega) | fail) [-List.map_take, -List.map_drop, -List.length_flatMap, map_take', map_drop', wrap_in, nth_nat, opt_if, dec_t, dec_f, o2, efo]⟩ (by omega)
  have k6 : ¬ (i : Int) < k.files.length := by omega
  have hil : i = k.files.length := by omega
  subst hil
  simp -implicitDefEqProofs (disch := first | omega | (simp -implicitDefEqProofs <;> omega) | (simp -implicitDefEqProofs [*] <;> omega) | fail) [-List.map_take, -List.map_drop, -List.length_flatMap, map_take', map_drop', wrap_in, nth_nat, opt_if, dec_t, dec_f, e1, e2, e3, e4, efo, g2, b2, g3, b3, o0, o1, o2, k6]
  refine lp (as2 k) (fun i => k.now.length - i) 0 ⟨by omega, by simp, by simp -implicitDefEqProofs (disch := first | omega | (simp -implicitDefEqProofs <;> omega) | (simp -implicitDefEqProofs [*] <;> omega) | fail) [-List.map_take, -List.map_drop, -List.length_flatMap, map_take', map_drop', wrap_in, nth_nat, opt_if, dec_t, dec_f, e1], by simp -implicitDefEqProofs (disch := first | omega | (simp -implicitDefEqProofs <;> omega) | (simp -implicitDefEqProofs [*] <;> omega) | fail) [-List.map_take, -List.map_drop, -List.length_flatMap, map_take', map_drop', wrap_in, nth_nat, opt_if, dec_t, dec_f, e2], by simp -implicitDefEqProofs (disch := first | omega | (simp -implicitDefEqProofs <;> omega) | (simp -implicitDefEqProofs [*] <;> omega) | fail) [-List.map_take, -List.map_drop, -List.length_flatMap, map_take', map_drop', wrap_in, nth_nat, opt_if, dec_t, dec_f, e3], by simp -implicitDefEqProofs (disch := first | omega | (simp -implicitDefEqProofs <;> omega) | (simp -implicitDefEqProofs [*] <;> omega) | fail) [-List.map_take, -List.map_drop, -List.length_flatMap, map_take', map_drop', wrap_in, nth_nat, opt_if, dec_t, dec_f, efo], by simp -implicitDefEqProofs (disch := first | omega | (simp -implicitDefEqProofs <;> omega) | (simp -implicitDefEqProofs [*] <;> omega) | fail) [-List.map_take, -List.map_drop, -List.length_flatMap, map_take', map_drop', wrap_in, nth_nat, opt_if, dec_t, dec_f, g2, efo], by simp -implicitDefEqProofs (disch := first | omega | (simp -implicitDefEqProofs <;> omega) | (simp -implicitDefEqProofs [*] <;> omega) | fail) [-List.map_take, -List.map_drop, -List.length_flatMap, map_take', map_drop', wrap_in, nth_nat, opt_if, dec_t, dec_f, b2, efo], by simp -implicitDefEqProofs (disch := first | omega | (simp -implicitDefEqProofs <;> omega) | (simp -implicitDefEqProofs [*] <;> omega) | fail) [-List.map_take, -List.map_drop, -List.length_flatMap, map_take', map_drop', wrap_in, nth_nat, opt_if, dec_t, dec_f, g3, efo], by simp -implicitDefEqProofs (disch := first | omega | (simp -implicitDefEqProofs <;> omega) | (simp -implicitDefEqProofs [*] <;> omega) | fail) [-List.map_take, -List.map_drop, -List.length_flatMap, map_take', map_drop', wrap_in, nth_nat, opt_if, dec_t, dec_f, b3, efo], by simp -implicitDefEqProofs (disch := first | omega | (simp -implicitDefEqProofs <;> omega) | (simp -implicitDefEqProofs [*] <;> omega) | fail) [-List.map_take, -List.map_drop, -List.length_flatMap, map_take', map_drop', wrap_in, nth_nat, opt_if, dec_t, dec_f, o0, efo], by simp -implicitDefEqProofs (disch := first | omega | (simp -implicitDefEqProofs <;> omega) | (simp -implicitDefEqProofs [*] <;> omega) | fail) [-List.map_take, -List.map_drop, -List.length_flatMap, map_take', map_drop', wrap_in, nth_nat, opt_if, dec_t, dec_f, o1, efo], by simp -implicitDefEqProofs (disch := first | omega | (simp -implicitDefEqProofs <;> omega) | (simp -implicitDefEqProofs [*] <;> omega) | fail) [-List.map_take, -List.map_drop, -List.length_flatMap, map_take', map_drop', wrap_in, nth_nat, opt_if, dec_t, dec_f, o2, efo]⟩ ?_
  clear e1 e2 e3 e4 efo g2 b2 g3 b3 o0 o1 o2 S hi hlt k6
  rintro i S ⟨hi, e4, e1, e2, e3, efo, g2, b2, g3, b3, o0, o1, o2⟩
  by_cases hlt : i < k.now.length
  · have k6 : (i : Int) < k.now.length := by omega
    have ht : (k.now.take (i + 1)).map Ent.d = (k.now.take i).map Ent.d ++ [Ent.d k.now[i]] := by
      rw [List.take_succ_eq_append_getElem hlt, List.map_append]
      rfl
    simp -implicitDefEqProofs (disch := first | omega | (simp -implicitDefEqProofs <;> omega) | (simp -implicitDefEqProofs [*] <;> omega) | fail) [-List.map_take, -List.map_drop, -List.length_flatMap, map_take', map_drop', wrap_in, nth_nat, opt_if, dec_t, dec_f, e1, e2, e3, e4, efo, g2, b2, g3, b3, o0, o1, o2, k6]
    exact nxt_of (i + 1) ⟨by omega, by simp, by simp -implicitDefEqProofs (disch := first | omega | (simp -implicitDefEqProofs <;> omega) | (simp -implicitDefEqProofs [*] <;> omega) | fail) [-List.map_take, -List.map_drop, -List.length_flatMap, map_take', map_drop', wrap_in, nth_nat, opt_if, dec_t, dec_f, e1], by simp -implicitDefEqProofs (disch := first | omega | (simp -implicitDefEqProofs <;> omega) | (simp -implicitDefEqProofs [*] <;> omega) | fail) [-List.map_take, -List.map_drop, -List.length_flatMap, map_take', map_drop', wrap_in, nth_nat, opt_if, dec_t, dec_f, e2], by simp -implicitDefEqProofs (disch := first | omega | (simp -implicitDefEqProofs <;> omega) | (simp -implicitDefEqProofs [*] <;> omega) | fail) [-List.map_take, -List.map_drop, -List.length_flatMap, map_take', map_drop', wrap_in, nth_nat, opt_if, dec_t, dec_f, e3], by simp -implicitDefEqProofs (disch := first | omega | (simp -implicitDefEqProofs <;> omega) | (simp -implicitDefEqProofs [*] <;> omega) | fail) [-List.map_take, -List.map_drop, -List.length_flatMap, map_take', map_drop', wrap_in, nth_nat, opt_if, dec_t, dec_f, efo], by simp -implicitDefEqProofs (disch := first | omega | (simp -implicitDefEqProofs <;> omega) | (simp -implicitDefEqProofs [*] <;> omega) | fail) [-List.map_take, -List.map_drop, -List.length_flatMap, map_take', map_drop', wrap_in, nth_nat, opt_if, dec_t, dec_f, g2, efo], by simp -implicitDefEqProofs (disch := first | omega | (simp -implicitDefEqProofs <;> omega) | (simp -implicitDefEqProofs [*] <;> omega) | fail) [-List.map_take, -List.map_drop, -List.length_flatMap, map_take', map_drop', wrap_in, nth_nat, opt_if, dec_t, dec_f, b2, efo], by simp -implicitDefEqProofs (disch := first | omega | (simp -implicitDefEqProofs <;> omega) | (simp -implicitDefEqProofs [*] <;> omega) | fail) [-List.map_take, -List.map_drop, -List.length_flatMap, map_take', map_drop', wrap_in, nth_nat, opt_if, dec_t, dec_f, g3, efo], by rw [ht]; simp -implicitDefEqProofs (disch := first | omega | (simp -implicitDefEqProofs <;> omega) | (simp -implicitDefEqProofs [*] <;> omega) | fail) [-List.map_take, -List.map_drop, -List.length_flatMap, map_take', map_drop', wrap_in, nth_nat, opt_if, dec_t, dec_f, b3, efo, Ent.d], by simp -implicitDefEqProofs (disch := first | omega | (simp -implicitDefEqProofs <;> omega) | (simp -implicitDefEqProofs [*] <;> omega) | fail) [-List.map_take, -List.map_drop, -List.length_flatMap, map_take', map_drop', wrap_in, nth_nat, opt_if, dec_t, dec_f, o0, efo], by simp -implicitDefEqProofs (disch := first | omega | (simp -implicitDefEqProofs <;> omega) | (simp -implicitDefEqProofs [*] <;> omega) | fail) [-List.map_take, -List.map_drop, -List.length_flatMap, map_take', map_drop', wrap_in, nth_nat, opt_if, dec_t, dec_f, o1, efo], by simp -implicitDefEqProofs (disch := first | omega | (simp -implicitDefEqProofs <;> omega) | (simp -implicitDefEqProofs [*] <;> omega) | fail) [-List.map_take, -List.map_drop, -List.length_flatMap, map_take', map_drop', wrap_in, nth_nat, opt_if, dec_t, dec_f, o2, efo]⟩ (by omega)
  have k6 : ¬ (i : Int) < k.now.length := by omega
  have hil : i = k.now.length := by omega
  subst hil
  simp -implicitDefEqProofs (disch := first | omega | (simp -implicitDefEqProofs <;> omega) | (simp -implicitDefEqProofs [*] <;> omega) | fail) [-List.map_take, -List.map_drop, -List.length_flatMap, map_take', map_drop', wrap_in, nth_nat, opt_if, dec_t, dec_f, e1, e2, e3, e4, efo, g2, b2, g3, b3, o0, o1, o2, k6]
  refine lp (as3 k) (fun i => k.kept.length - i) 0 ⟨by omega, by simp, by simp -implicitDefEqProofs (disch := first | omega | (simp -implicitDefEqProofs <;> omega) | (simp -implicitDefEqProofs [*] <;> omega) | fail) [-List.map_take, -List.map_drop, -List.length_flatMap, map_take', map_drop', wrap_in, nth_nat, opt_if, dec_t, dec_f, e1], by simp -implicitDefEqProofs (disch := first | omega | (simp -implicitDefEqProofs <;> omega) | (simp -implicitDefEqProofs [*] <;> omega) | fail) [-List.map_take, -List.map_drop, -List.length_flatMap, map_take', map_drop', wrap_in, nth_nat, opt_if, dec_t, dec_f, e2], by simp -implicitDefEqProofs (disch := first | omega | (simp -implicitDefEqProofs <;> omega) | (simp -implicitDefEqProofs [*] <;> omega) | fail) [-List.map_take, -List.map_drop, -List.length_flatMap, map_take', map_drop', wrap_in, nth_nat, opt_if, dec_t, dec_f, e3], by simp -implicitDefEqProofs (disch := first | omega | (simp -implicitDefEqProofs <;> omega) | (simp -implicitDefEqProofs [*] <;> omega) | fail) [-List.map_take, -List.map_drop, -List.length_flatMap, map_take', map_drop', wrap_in, nth_nat, opt_if, dec_t, dec_f, efo], by simp -implicitDefEqProofs (disch := first | omega | (simp -implicitDefEqProofs <;> omega) | (simp -implicitDefEqProofs [*] <;> omega) | fail) [-List.map_take, -List.map_drop, -List.length_flatMap, map_take', map_drop', wrap_in, nth_nat, opt_if, dec_t, dec_f, g2, efo], by simp -implicitDefEqProofs (disch := first | omega | (simp -implicitDefEqProofs <;> omega) | (simp -implicitDefEqProofs [*] <;> omega) | fail) [-List.map_take, -List.map_drop, -List.length_flatMap, map_take', map_drop', wrap_in, nth_nat, opt_if, dec_t, dec_f, b2, efo], by simp -implicitDefEqProofs (disch := first | omega | (simp -implicitDefEqProofs <;> omega) | (simp -implicitDefEqProofs [*] <;> omega) | fail) [-List.map_take, -List.map_drop, -List.length_flatMap, map_take', map_drop', wrap_in, nth_nat, opt_if, dec_t, dec_f, g3, efo], by simp -implicitDefEqProofs (disch := first | omega | (simp -implicitDefEqProofs <;> omega) | (simp -implicitDefEqProofs [*] <;> omega) | fail) [-List.map_take, -List.map_drop, -List.length_flatMap, map_take', map_drop', wrap_in, nth_nat, opt_if, dec_t, dec_f, b3, efo], by simp -implicitDefEqProofs (disch := first | omega | (simp -implicitDefEqProofs <;> omega) | (simp -implicitDefEqProofs [*] <;> omega) | fail) [-List.map_take, -List.map_drop, -List.length_flatMap, map_take', map_drop', wrap_in, nth_nat, opt_if, dec_t, dec_f, o0, efo], by simp -implicitDefEqProofs (disch := first | omega | (simp -implicitDefEqProofs <;> omega) | (simp -implicitDefEqProofs [*] <;> omega) | fail) [-List.map_take, -List.map_drop, -List.length_flatMap, map_take', map_drop', wrap_in, nth_nat, opt_if, dec_t, dec_f, o1, efo], by simp -implicitDefEqProofs (disch := first | omega | (simp -implicitDefEqProofs <;> omega) | (simp -implicitDefEqProofs [*] <;> omega) | fail) [-List.map_take, -List.map_drop, -List.length_flatMap, map_take', map_drop', wrap_in, nth_nat, opt_if, dec_t, dec_f, o2, efo]⟩ ?_
  clear e1 e2 e3 e4 efo g2 b2 g3 b3 o0 o1 o2 S hi hlt k6
  rintro i S ⟨hi, e4, e1, e2, e3, efo, g2, b2, g3, b3, o0, o1, o2⟩
  by_cases hlt : i < k.kept.length
  · have k6 : (i : Int) < k.kept.length := by omega
    have ht : (k.kept.take (i + 1)).map Ent.d = (k.kept.take i).map Ent.d ++ [Ent.d k.kept[i]] := by
      rw [List.take_succ_eq_append_getElem hlt, List.map_append]
      rfl
    simp -implicitDefEqProofs (disch := first | omega | (simp -implicitDefEqProofs <;> omega) | (simp -implicitDefEqProofs [*] <;> omega) | fail) [-List.map_take, -List.map_drop, -List.length_flatMap, map_take', map_drop', wrap_in, nth_nat, opt_if, dec_t, dec_f, e1, e2, e3, e4, efo, g2, b2, g3, b3, o0, o1, o2, k6]
    exact nxt_of (i + 1) ⟨by omega, by simp, by simp -implicitDefEqProofs (disch := first | omega | (simp -implicitDefEqProofs <;> omega) | (simp -implicitDefEqProofs [*] <;> omega) | fail) [-List.map_take, -List.map_drop, -List.length_flatMap, map_take', map_drop', wrap_in, nth_nat, opt_if, dec_t, dec_f, e1], by simp -implicitDefEqProofs (disch := first | omega | (simp -implicitDefEqProofs <;> omega) | (simp -implicitDefEqProofs [*] <;> omega) | fail) [-List.map_take, -List.map_drop, -List.length_flatMap, map_take', map_drop', wrap_in, nth_nat, opt_if, dec_t, dec_f, e2], by simp -implicitDefEqProofs (disch := first | omega | (simp -implicitDefEqProofs <;> omega) | (simp -implicitDefEqProofs [*] <;> omega) | fail) [-List.map_take, -List.map_drop, -List.length_flatMap, map_take', map_drop', wrap_in, nth_nat, opt_if, dec_t, dec_f, e3], by simp -implicitDefEqProofs (disch := first | omega | (simp -implicitDefEqProofs <;> omega) | (simp -implicitDefEqProofs [*] <;> omega) | fail) [-List.map_take, -List.map_drop, -List.length_flatMap, map_take', map_drop', wrap_in, nth_nat, opt_if, dec_t, dec_f, efo], by simp -implicitDefEqProofs (disch := first | omega | (simp -implicitDefEqProofs <;> omega) | (simp -implicitDefEqProofs [*] <;> omega) | fail) [-List.map_take, -List.map_drop, -List.length_flatMap, map_take', map_drop', wrap_in, nth_nat, opt_if, dec_t, dec_f, g2, efo], by simp -implicitDefEqProofs (disch := first | omega | (simp -implicitDefEqProofs <;> omega) | (simp -implicitDefEqProofs [*] <;> omega) | fail) [-List.map_take, -List.map_drop, -List.length_flatMap, map_take', map_drop', wrap_in, nth_nat, opt_if, dec_t, dec_f, b2, efo], by simp -implicitDefEqProofs (disch := first | omega | (simp -implicitDefEqProofs <;> omega) | (simp -implicitDefEqProofs [*] <;> omega) | fail) [-List.map_take, -List.map_drop, -List.length_flatMap, map_take', map_drop', wrap_in, nth_nat, opt_if, dec_t, dec_f, g3, efo], by rw [ht]; simp -implicitDefEqProofs (disch := first | omega | (simp -implicitDefEqProofs <;> omega) | (simp -implicitDefEqProofs [*] <;> omega) | fail) [-List.map_take, -List.map_drop, -List.length_flatMap, map_take', map_drop', wrap_in, nth_nat, opt_if, dec_t, dec_f, b3, efo, Ent.d], by simp -implicitDefEqProofs (disch := first | omega | (simp -implicitDefEqProofs <;> omega) | (simp -implicitDefEqProofs [*] <;> omega) | fail) [-List.map_take, -List.map_drop, -List.length_flatMap, map_take', map_drop', wrap_in, nth_nat, opt_if, dec_t, dec_f, o0, efo], by simp -implicitDefEqProofs (disch := first | omega | (simp -implicitDefEqProofs <;> omega) | (simp -implicitDefEqProofs [*] <;> omega) | fail) [-List.map_take, -List.map_drop, -List.length_flatMap, map_take', map_drop', wrap_in, nth_nat, opt_if, dec_t, dec_f, o1, efo], by simp -implicitDefEqProofs (disch := first | omega | (simp -implicitDefEqProofs <;> omega) | (simp -implicitDefEqProofs [*] <;> omega) | fail) [-List.map_take, -List.map_drop, -List.length_flatMap, map_take', map_drop', wrap_in, nth_nat, opt_if, dec_t, dec_f, o2, efo]⟩ (by omega)
  have k6 : ¬ (i : Int) < k.kept.length := by omega
  have hil : i = k.kept.length := by omega
  subst hil
  simp -implicitDefEqProofs (disch := first | omega | (simp -implicitDefEqProofs <;> omega) | (simp -implicitDefEqProofs [*] <;> omega) | fail) [-List.map_take, -List.map_drop, -List.length_flatMap, map_take', map_drop', wrap_in, nth_nat, opt_if, dec_t, dec_f, e1, e2, e3, e4, efo, g2, b2, g3, b3, o0, o1, o2, k6, Dk.d]

def smallF (f : FileD) : Bool := decide (f.data.length ≤ 30000)
def smallK (k : Dk) : Bool := k.files.all smallF && decide (k.files.length ≤ 50) && decide (k.now.length ≤ 50) && decide (k.kept.length ≤ 50)
def DkOk (k : Dk) : Prop := k.files.length ≤ 9223372036854775807 ∧ k.now.length ≤ 9223372036854775807 ∧ k.kept.length ≤ 9223372036854775807 ∧ (∀ e ∈ k.now, e.name.length ≤ 9223372036854775807) ∧ ∀ e ∈ k.kept, e.name.length ≤ 9223372036854775807
theorem small_ok {k : Dk} (h : smallK k = true) (hk : DkOk k) : okK k := by
  simp only [smallK, Bool.and_eq_true, decide_eq_true_eq, List.all_eq_true, smallF] at h
  obtain ⟨⟨⟨h1, h2⟩, h3⟩, h4⟩ := h
  obtain ⟨_, _, _, k4, k5⟩ := hk
  refine ⟨⟨⟨by omega, fun f hf => ?_⟩, ⟨by omega, k4⟩, ⟨by omega, k5⟩⟩, by omega⟩
  have := h1 f hf
  omega
def gr8I (k : Dk) (i : Nat) (S : PS) : Prop :=
  i ≤ k.files.length ∧ (k.files.take i).all smallF = true ∧ S.t 1 = .cptr (cells k.d) ∧ S.t 3 = .d (.int .i64 i)
theorem great08 (k : Dk) (hk : DkOk k) : Holds Try.prog 9 [.d k.d] (.d (.bool (!smallK k))) (fun _ => false) := by
  refine Holds.by (by kernel_rfl) Try.func9 (by kernel_rfl) rfl [20001] (by simp) (by kernel_rfl) (by kernel_rfl) rfl ?_
  conv in ccs _ => cbv
  obtain ⟨k1, k2, k3, _⟩ := hk
  simp -implicitDefEqProofs (disch := first | omega | (simp -implicitDefEqProofs <;> omega) | (simp -implicitDefEqProofs [*] <;> omega) | fail) [-List.map_take, -List.map_drop, -List.length_flatMap, map_take', map_drop', wrap_in, nth_nat, opt_if, dec_t, dec_f]
  refine lp (gr8I k) (fun i => k.files.length - i) 0 ⟨Nat.zero_le _, by simp, by simp, by simp⟩ ?_
  rintro i S ⟨hi, ha, e1, e3⟩
  by_cases hlt : i < k.files.length
  · have k6 : (i : Int) < k.files.length := by omega
    by_cases hb : k.files[i].data.length ≤ 30000
    · have hb' : ¬ (30000 : Int) < k.files[i].data.length := by omega
      simp -implicitDefEqProofs (disch := first | omega | (simp -implicitDefEqProofs <;> omega) | (simp -implicitDefEqProofs [*] <;> omega) | fail) [-List.map_take, -List.map_drop, -List.length_flatMap, map_take', map_drop', wrap_in, nth_nat, opt_if, dec_t, dec_f, e1, e3, k6, hb']
      exact nxt_of (i + 1) ⟨by omega, all_step hlt ha (decide_eq_true hb), by simp -implicitDefEqProofs (disch := first | omega | (simp -implicitDefEqProofs <;> omega) | (simp -implicitDefEqProofs [*] <;> omega) | fail) [-List.map_take, -List.map_drop, -List.length_flatMap, map_take', map_drop', wrap_in, nth_nat, opt_if, dec_t, dec_f, e1], by simp⟩ (by omega)
    · have hb' : (30000 : Int) < k.files[i].data.length := by omega
      have hz : (!smallK k) = true := by
        have := all_bad (p := smallF) hlt (decide_eq_false hb)
        simp [smallK, this]
      simp -implicitDefEqProofs (disch := first | omega | (simp -implicitDefEqProofs <;> omega) | (simp -implicitDefEqProofs [*] <;> omega) | fail) [-List.map_take, -List.map_drop, -List.length_flatMap, map_take', map_drop', wrap_in, nth_nat, opt_if, dec_t, dec_f, e1, e3, k6, hb', hz]
  · have k6 : ¬ (i : Int) < k.files.length := by omega
    have hal := all_end hlt ha
    by_cases c1 : (50 : Int) < k.files.length
    · have hz : smallK k = false := by
        rw [Bool.eq_false_iff]
        simp only [smallK, ne_eq, Bool.and_eq_true, decide_eq_true_eq]
        omega
      simp -implicitDefEqProofs (disch := first | omega | (simp -implicitDefEqProofs <;> omega) | (simp -implicitDefEqProofs [*] <;> omega) | fail) [-List.map_take, -List.map_drop, -List.length_flatMap, map_take', map_drop', wrap_in, nth_nat, opt_if, dec_t, dec_f, e1, e3, k6, c1, hz]
    · by_cases c2 : (50 : Int) < k.now.length
      · have hz : smallK k = false := by
          rw [Bool.eq_false_iff]
          simp only [smallK, ne_eq, Bool.and_eq_true, decide_eq_true_eq]
          omega
        simp -implicitDefEqProofs (disch := first | omega | (simp -implicitDefEqProofs <;> omega) | (simp -implicitDefEqProofs [*] <;> omega) | fail) [-List.map_take, -List.map_drop, -List.length_flatMap, map_take', map_drop', wrap_in, nth_nat, opt_if, dec_t, dec_f, e1, e3, k6, c1, c2, hz]
      · by_cases c3 : (50 : Int) < k.kept.length
        · have hz : smallK k = false := by
            rw [Bool.eq_false_iff]
            simp only [smallK, ne_eq, Bool.and_eq_true, decide_eq_true_eq]
            omega
          simp -implicitDefEqProofs (disch := first | omega | (simp -implicitDefEqProofs <;> omega) | (simp -implicitDefEqProofs [*] <;> omega) | fail) [-List.map_take, -List.map_drop, -List.length_flatMap, map_take', map_drop', wrap_in, nth_nat, opt_if, dec_t, dec_f, e1, e3, k6, c1, c2, c3, hz]
        · have hz : smallK k = true := by
            simp only [smallK, Bool.and_eq_true, decide_eq_true_eq]
            exact ⟨⟨⟨hal, by omega⟩, by omega⟩, by omega⟩
          simp -implicitDefEqProofs (disch := first | omega | (simp -implicitDefEqProofs <;> omega) | (simp -implicitDefEqProofs [*] <;> omega) | fail) [-List.map_take, -List.map_drop, -List.length_flatMap, map_take', map_drop', wrap_in, nth_nat, opt_if, dec_t, dec_f, e1, e3, k6, c1, c2, c3, hz]

structure ActR where
  kind : Int
  n : Int
  name : List UInt8
  to : List UInt8
  b : List UInt8
  keep : List Int
  dir : Bool
instance : Inhabited ActR := ⟨⟨0, 0, [], [], [], [], false⟩⟩
def ActR.d (a : ActR) : DV := .agg [.int .i64 a.kind, .int .i64 a.n, .str a.name, .str a.to, .slice (a.b.map byteD), .slice (a.keep.map intD), .bool a.dir]
@[simp] theorem cells_act (a : ActR) : cells a.d = [.int .i64 a.kind, .int .i64 a.n, .str a.name, .str a.to, .slice (a.b.map byteD), .slice (a.keep.map intD), .bool a.dir] := rfl
def smallA (a : ActR) : Bool := decide (a.name.length ≤ 100 ∧ a.to.length ≤ 100 ∧ a.b.length ≤ 30000 ∧ a.keep.length ≤ 100)
def ActOk (a : ActR) : Prop := a.name.length ≤ 9223372036854775807 ∧ a.to.length ≤ 9223372036854775807 ∧ a.b.length ≤ 9223372036854775807 ∧ a.keep.length ≤ 9223372036854775807
theorem small08 (a : ActR) (ha : ActOk a) : Holds Try.prog 21 [.d a.d] (.d (.bool (smallA a))) (fun _ => false) := by
  refine Holds.by (by kernel_rfl) Try.func21 (by kernel_rfl) rfl [20001] (by simp) (by kernel_rfl) (by kernel_rfl) rfl ?_
  conv in ccs _ => cbv
  obtain ⟨k1, k2, k3, k4⟩ := ha
  have hz : smallA a = (decide ((a.name.length : Int) ≤ 100) && decide ((a.to.length : Int) ≤ 100) && decide ((a.b.length : Int) ≤ 30000) && decide ((a.keep.length : Int) ≤ 100)) := by
    rw [Bool.eq_iff_iff]
    simp only [smallA, Bool.and_eq_true, decide_eq_true_eq]
    omega
  rw [hz]
  by_cases c1 : (a.name.length : Int) ≤ 100
  · by_cases c2 : (a.to.length : Int) ≤ 100
    · by_cases c3 : (a.b.length : Int) ≤ 30000
      · by_cases c4 : (a.keep.length : Int) ≤ 100
        · simp -implicitDefEqProofs (disch := first | omega | (simp -implicitDefEqProofs <;> omega) | (simp -implicitDefEqProofs [*] <;> omega) | fail) [-List.map_take, -List.map_drop, -List.length_flatMap, map_take', map_drop', wrap_in, nth_nat, opt_if, dec_t, dec_f, c1, c2, c3, c4]
        · simp -implicitDefEqProofs (disch := first | omega | (simp -implicitDefEqProofs <;> omega) | (simp -implicitDefEqProofs [*] <;> omega) | fail) [-List.map_take, -List.map_drop, -List.length_flatMap, map_take', map_drop', wrap_in, nth_nat, opt_if, dec_t, dec_f, c1, c2, c3, c4]
      · simp -implicitDefEqProofs (disch := first | omega | (simp -implicitDefEqProofs <;> omega) | (simp -implicitDefEqProofs [*] <;> omega) | fail) [-List.map_take, -List.map_drop, -List.length_flatMap, map_take', map_drop', wrap_in, nth_nat, opt_if, dec_t, dec_f, c1, c2, c3]
    · simp -implicitDefEqProofs (disch := first | omega | (simp -implicitDefEqProofs <;> omega) | (simp -implicitDefEqProofs [*] <;> omega) | fail) [-List.map_take, -List.map_drop, -List.length_flatMap, map_take', map_drop', wrap_in, nth_nat, opt_if, dec_t, dec_f, c1, c2]
  · simp -implicitDefEqProofs (disch := first | omega | (simp -implicitDefEqProofs <;> omega) | (simp -implicitDefEqProofs [*] <;> omega) | fail) [-List.map_take, -List.map_drop, -List.length_flatMap, map_take', map_drop', wrap_in, nth_nat, opt_if, dec_t, dec_f, c1]

def actS (k : Dk) (a : ActR) : Dk × Int :=
  if a.kind = 0 then appendS k a.name a.b else if a.kind = 1 then syncS k a.name else if a.kind = 2 then cutS k a.name a.n else if a.kind = 3 then renameS k a.name a.to
  else if a.kind = 4 then removeS k a.name else if a.kind = 5 then (syncDirS k, 0) else (crashS k a.keep a.dir, 0)
def ActSz (a : ActR) : Prop := a.name.length ≤ 9223372036854775807 ∧ a.to.length ≤ 9223372036854775807 ∧ a.b.length ≤ 1000000 ∧ a.keep.length ≤ 1000000
theorem small_sz {a : ActR} (h : smallA a = true) : ActSz a := by
  simp only [smallA, decide_eq_true_eq] at h
  unfold ActSz
  omega
theorem law08Do (k : Dk) (a : ActR) (hk : okK k) (ha : ActSz a) : Holds Try.prog 26 [.d k.d, .d a.d] (.tup [.d (actS k a).1.d, .d (.int .i64 (actS k a).2)]) (fun _ => false) := by
  refine Holds.by (by kernel_rfl) Try.func26 (by kernel_rfl) rfl [20002, 20003] (by simp) (by kernel_rfl) (by kernel_rfl) rfl ?_
  conv in ccs _ => cbv
  obtain ⟨k1, k2, k3, k4⟩ := ha
  have q0 := diskAppend k hk a.name a.b k1 k3
  have q1 := diskSync k hk a.name
  have q2 := diskCut k hk a.name a.n
  have q3 := diskRename k hk a.name a.to k2
  have q4 := diskRemove k hk a.name
  have q5 := diskSyncDir k hk
  have q6 := diskCrash k hk a.keep k4 a.dir
  have hkd : k.d = .agg (cells k.d) := rfl
  unfold actS
  by_cases c0 : a.kind = 0
  · simp -implicitDefEqProofs (disch := first | omega | (simp -implicitDefEqProofs <;> omega) | (simp -implicitDefEqProofs [*] <;> omega) | fail) [-List.map_take, -List.map_drop, -List.length_flatMap, map_take', map_drop', wrap_in, nth_nat, opt_if, dec_t, dec_f, c0]
    refine o_call rfl rfl q0 rfl rfl ?_
    simp -implicitDefEqProofs (disch := first | omega | (simp -implicitDefEqProofs <;> omega) | (simp -implicitDefEqProofs [*] <;> omega) | fail) [-List.map_take, -List.map_drop, -List.length_flatMap, map_take', map_drop', wrap_in, nth_nat, opt_if, dec_t, dec_f, Dk.d]
  by_cases c1 : a.kind = 1
  · simp -implicitDefEqProofs (disch := first | omega | (simp -implicitDefEqProofs <;> omega) | (simp -implicitDefEqProofs [*] <;> omega) | fail) [-List.map_take, -List.map_drop, -List.length_flatMap, map_take', map_drop', wrap_in, nth_nat, opt_if, dec_t, dec_f, c0, c1]
    refine o_call rfl rfl q1 rfl rfl ?_
    simp -implicitDefEqProofs (disch := first | omega | (simp -implicitDefEqProofs <;> omega) | (simp -implicitDefEqProofs [*] <;> omega) | fail) [-List.map_take, -List.map_drop, -List.length_flatMap, map_take', map_drop', wrap_in, nth_nat, opt_if, dec_t, dec_f, Dk.d]
  by_cases c2 : a.kind = 2
  · simp -implicitDefEqProofs (disch := first | omega | (simp -implicitDefEqProofs <;> omega) | (simp -implicitDefEqProofs [*] <;> omega) | fail) [-List.map_take, -List.map_drop, -List.length_flatMap, map_take', map_drop', wrap_in, nth_nat, opt_if, dec_t, dec_f, c0, c1, c2]
    refine o_call rfl rfl q2 rfl rfl ?_
    simp -implicitDefEqProofs (disch := first | omega | (simp -implicitDefEqProofs <;> omega) | (simp -implicitDefEqProofs [*] <;> omega) | fail) [-List.map_take, -List.map_drop, -List.length_flatMap, map_take', map_drop', wrap_in, nth_nat, opt_if, dec_t, dec_f, Dk.d]
  by_cases c3 : a.kind = 3
  · simp -implicitDefEqProofs (disch := first | omega | (simp -implicitDefEqProofs <;> omega) | (simp -implicitDefEqProofs [*] <;> omega) | fail) [-List.map_take, -List.map_drop, -List.length_flatMap, map_take', map_drop', wrap_in, nth_nat, opt_if, dec_t, dec_f, c0, c1, c2, c3]
    refine o_call rfl rfl q3 rfl rfl ?_
    simp -implicitDefEqProofs (disch := first | omega | (simp -implicitDefEqProofs <;> omega) | (simp -implicitDefEqProofs [*] <;> omega) | fail) [-List.map_take, -List.map_drop, -List.length_flatMap, map_take', map_drop', wrap_in, nth_nat, opt_if, dec_t, dec_f, Dk.d]
  by_cases c4 : a.kind = 4
  · simp -implicitDefEqProofs (disch := first | omega | (simp -implicitDefEqProofs <;> omega) | (simp -implicitDefEqProofs [*] <;> omega) | fail) [-List.map_take, -List.map_drop, -List.length_flatMap, map_take', map_drop', wrap_in, nth_nat, opt_if, dec_t, dec_f, c0, c1, c2, c3, c4]
    refine o_call rfl rfl q4 rfl rfl ?_
    simp -implicitDefEqProofs (disch := first | omega | (simp -implicitDefEqProofs <;> omega) | (simp -implicitDefEqProofs [*] <;> omega) | fail) [-List.map_take, -List.map_drop, -List.length_flatMap, map_take', map_drop', wrap_in, nth_nat, opt_if, dec_t, dec_f, Dk.d]
  by_cases c5 : a.kind = 5
  · simp -implicitDefEqProofs (disch := first | omega | (simp -implicitDefEqProofs <;> omega) | (simp -implicitDefEqProofs [*] <;> omega) | fail) [-List.map_take, -List.map_drop, -List.length_flatMap, map_take', map_drop', wrap_in, nth_nat, opt_if, dec_t, dec_f, c0, c1, c2, c3, c4, c5]
    refine o_call rfl rfl q5 rfl rfl ?_
    simp -implicitDefEqProofs (disch := first | omega | (simp -implicitDefEqProofs <;> omega) | (simp -implicitDefEqProofs [*] <;> omega) | fail) [-List.map_take, -List.map_drop, -List.length_flatMap, map_take', map_drop', wrap_in, nth_nat, opt_if, dec_t, dec_f, Dk.d]
  simp -implicitDefEqProofs (disch := first | omega | (simp -implicitDefEqProofs <;> omega) | (simp -implicitDefEqProofs [*] <;> omega) | fail) [-List.map_take, -List.map_drop, -List.length_flatMap, map_take', map_drop', wrap_in, nth_nat, opt_if, dec_t, dec_f, c0, c1, c2, c3, c4, c5]
  refine o_call rfl rfl q6 rfl rfl ?_
  simp -implicitDefEqProofs (disch := first | omega | (simp -implicitDefEqProofs <;> omega) | (simp -implicitDefEqProofs [*] <;> omega) | fail) [-List.map_take, -List.map_drop, -List.length_flatMap, map_take', map_drop', wrap_in, nth_nat, opt_if, dec_t, dec_f, Dk.d]

theorem law08Means (k : Dk) (a : ActR) (hk : okK k) (ha : ActSz a) : Holds Try.prog 27 [.d k.d, .d a.d] (.tup [.d (actS k a).1.d, .d (.int .i64 (actS k a).2)]) (fun _ => false) := by
  refine Holds.by (by kernel_rfl) Try.func27 (by kernel_rfl) rfl [20002, 20003] (by simp) (by kernel_rfl) (by kernel_rfl) rfl ?_
  conv in ccs _ => cbv
  obtain ⟨k1, k2, k3, k4⟩ := ha
  have q0 := ref08Append k hk a.name a.b k1 k3
  have q1 := ref08Sync k hk a.name
  have q2 := ref08Cut k hk a.name a.n
  have q3 := ref08Rename k hk a.name a.to k2
  have q4 := ref08Remove k hk a.name
  have q5 := ref08SyncDir k hk
  have q6 := ref08Crash k hk a.keep k4 a.dir
  unfold actS
  by_cases c0 : a.kind = 0
  · simp -implicitDefEqProofs (disch := first | omega | (simp -implicitDefEqProofs <;> omega) | (simp -implicitDefEqProofs [*] <;> omega) | fail) [-List.map_take, -List.map_drop, -List.length_flatMap, map_take', map_drop', wrap_in, nth_nat, opt_if, dec_t, dec_f, c0]
    refine o_call rfl rfl q0 rfl rfl ?_
    simp -implicitDefEqProofs (disch := first | omega | (simp -implicitDefEqProofs <;> omega) | (simp -implicitDefEqProofs [*] <;> omega) | fail) [-List.map_take, -List.map_drop, -List.length_flatMap, map_take', map_drop', wrap_in, nth_nat, opt_if, dec_t, dec_f, Dk.d]
  by_cases c1 : a.kind = 1
  · simp -implicitDefEqProofs (disch := first | omega | (simp -implicitDefEqProofs <;> omega) | (simp -implicitDefEqProofs [*] <;> omega) | fail) [-List.map_take, -List.map_drop, -List.length_flatMap, map_take', map_drop', wrap_in, nth_nat, opt_if, dec_t, dec_f, c0, c1]
    refine o_call rfl rfl q1 rfl rfl ?_
    simp -implicitDefEqProofs (disch := first | omega | (simp -implicitDefEqProofs <;> omega) | (simp -implicitDefEqProofs [*] <;> omega) | fail) [-List.map_take, -List.map_drop, -List.length_flatMap, map_take', map_drop', wrap_in, nth_nat, opt_if, dec_t, dec_f, Dk.d]
  by_cases c2 : a.kind = 2
  · simp -implicitDefEqProofs (disch := first | omega | (simp -implicitDefEqProofs <;> omega) | (simp -implicitDefEqProofs [*] <;> omega) | fail) [-List.map_take, -List.map_drop, -List.length_flatMap, map_take', map_drop', wrap_in, nth_nat, opt_if, dec_t, dec_f, c0, c1, c2]
    refine o_call rfl rfl q2 rfl rfl ?_
    simp -implicitDefEqProofs (disch := first | omega | (simp -implicitDefEqProofs <;> omega) | (simp -implicitDefEqProofs [*] <;> omega) | fail) [-List.map_take, -List.map_drop, -List.length_flatMap, map_take', map_drop', wrap_in, nth_nat, opt_if, dec_t, dec_f, Dk.d]
  by_cases c3 : a.kind = 3
  · simp -implicitDefEqProofs (disch := first | omega | (simp -implicitDefEqProofs <;> omega) | (simp -implicitDefEqProofs [*] <;> omega) | fail) [-List.map_take, -List.map_drop, -List.length_flatMap, map_take', map_drop', wrap_in, nth_nat, opt_if, dec_t, dec_f, c0, c1, c2, c3]
    refine o_call rfl rfl q3 rfl rfl ?_
    simp -implicitDefEqProofs (disch := first | omega | (simp -implicitDefEqProofs <;> omega) | (simp -implicitDefEqProofs [*] <;> omega) | fail) [-List.map_take, -List.map_drop, -List.length_flatMap, map_take', map_drop', wrap_in, nth_nat, opt_if, dec_t, dec_f, Dk.d]
  by_cases c4 : a.kind = 4
  · simp -implicitDefEqProofs (disch := first | omega | (simp -implicitDefEqProofs <;> omega) | (simp -implicitDefEqProofs [*] <;> omega) | fail) [-List.map_take, -List.map_drop, -List.length_flatMap, map_take', map_drop', wrap_in, nth_nat, opt_if, dec_t, dec_f, c0, c1, c2, c3, c4]
    refine o_call rfl rfl q4 rfl rfl ?_
    simp -implicitDefEqProofs (disch := first | omega | (simp -implicitDefEqProofs <;> omega) | (simp -implicitDefEqProofs [*] <;> omega) | fail) [-List.map_take, -List.map_drop, -List.length_flatMap, map_take', map_drop', wrap_in, nth_nat, opt_if, dec_t, dec_f, Dk.d]
  by_cases c5 : a.kind = 5
  · simp -implicitDefEqProofs (disch := first | omega | (simp -implicitDefEqProofs <;> omega) | (simp -implicitDefEqProofs [*] <;> omega) | fail) [-List.map_take, -List.map_drop, -List.length_flatMap, map_take', map_drop', wrap_in, nth_nat, opt_if, dec_t, dec_f, c0, c1, c2, c3, c4, c5]
    refine o_call rfl rfl q5 rfl rfl ?_
    simp -implicitDefEqProofs (disch := first | omega | (simp -implicitDefEqProofs <;> omega) | (simp -implicitDefEqProofs [*] <;> omega) | fail) [-List.map_take, -List.map_drop, -List.length_flatMap, map_take', map_drop', wrap_in, nth_nat, opt_if, dec_t, dec_f, Dk.d]
  simp -implicitDefEqProofs (disch := first | omega | (simp -implicitDefEqProofs <;> omega) | (simp -implicitDefEqProofs [*] <;> omega) | fail) [-List.map_take, -List.map_drop, -List.length_flatMap, map_take', map_drop', wrap_in, nth_nat, opt_if, dec_t, dec_f, c0, c1, c2, c3, c4, c5]
  refine o_call rfl rfl q6 rfl rfl ?_
  simp -implicitDefEqProofs (disch := first | omega | (simp -implicitDefEqProofs <;> omega) | (simp -implicitDefEqProofs [*] <;> omega) | fail) [-List.map_take, -List.map_drop, -List.length_flatMap, map_take', map_drop', wrap_in, nth_nat, opt_if, dec_t, dec_f, Dk.d]

def rsnI (l : List Ent) (i : Nat) (S : PS) : Prop := i ≤ l.length ∧ S.t 0 = .d (.slice (l.map Ent.d)) ∧ S.t 1 = .d (.slice (l.map Ent.d)) ∧ S.t 5 = .d (.int .i64 i)
theorem ref08SameNames (l : List Ent) (hl : l.length ≤ 1000000) : Holds Try.prog 47 [.d (.slice (l.map Ent.d)), .d (.slice (l.map Ent.d))] (.d (.bool true)) (fun _ => false) := by
  refine Holds.by (by kernel_rfl) Try.func47 (by kernel_rfl) rfl [] (by simp) (by kernel_rfl) (by kernel_rfl) rfl ?_
  conv in ccs _ => cbv
  simp -implicitDefEqProofs (disch := first | omega | (simp -implicitDefEqProofs <;> omega) | (simp -implicitDefEqProofs [*] <;> omega) | fail) [-List.map_take, -List.map_drop, -List.length_flatMap, map_take', map_drop', wrap_in, nth_nat, opt_if, dec_t, dec_f]
  refine lp (rsnI l) (fun i => l.length - i) 0 ⟨by omega, by simp, by simp, by simp⟩ ?_
  rintro i S ⟨hi, e0, e1, e5⟩
  by_cases hlt : i < l.length
  · have k6 : (i : Int) < l.length := by omega
    simp -implicitDefEqProofs (disch := first | omega | (simp -implicitDefEqProofs <;> omega) | (simp -implicitDefEqProofs [*] <;> omega) | fail) [-List.map_take, -List.map_drop, -List.length_flatMap, map_take', map_drop', wrap_in, nth_nat, opt_if, dec_t, dec_f, e0, e1, e5, k6]
    exact nxt_of (i + 1) ⟨by omega, by simp -implicitDefEqProofs (disch := first | omega | (simp -implicitDefEqProofs <;> omega) | (simp -implicitDefEqProofs [*] <;> omega) | fail) [-List.map_take, -List.map_drop, -List.length_flatMap, map_take', map_drop', wrap_in, nth_nat, opt_if, dec_t, dec_f, e0], by simp -implicitDefEqProofs (disch := first | omega | (simp -implicitDefEqProofs <;> omega) | (simp -implicitDefEqProofs [*] <;> omega) | fail) [-List.map_take, -List.map_drop, -List.length_flatMap, map_take', map_drop', wrap_in, nth_nat, opt_if, dec_t, dec_f, e1], by simp⟩ (by omega)
  · have k6 : ¬ (i : Int) < l.length := by omega
    simp -implicitDefEqProofs (disch := first | omega | (simp -implicitDefEqProofs <;> omega) | (simp -implicitDefEqProofs [*] <;> omega) | fail) [-List.map_take, -List.map_drop, -List.length_flatMap, map_take', map_drop', wrap_in, nth_nat, opt_if, dec_t, dec_f, e0, e1, e5, k6]
def rsmI (k : Dk) (i : Nat) (S : PS) : Prop := i ≤ k.files.length ∧ S.t 2 = .cptr (cells k.d) ∧ S.t 3 = .cptr (cells k.d) ∧ S.t 5 = .d (.int .i64 i)
theorem ref08Same (k : Dk) (hk : okK k) : Holds Try.prog 28 [.d k.d, .d k.d] (.d (.bool true)) (fun _ => false) := by
  refine Holds.by (by kernel_rfl) Try.func28 (by kernel_rfl) rfl [20002, 20003] (by simp) (by kernel_rfl) (by kernel_rfl) rfl ?_
  conv in ccs _ => cbv
  obtain ⟨⟨⟨h1, _⟩, ⟨h2, _⟩, ⟨h3, _⟩⟩, _⟩ := hk
  have q1 := ref08SameNames k.now (by omega)
  have q2 := ref08SameNames k.kept (by omega)
  simp -implicitDefEqProofs (disch := first | omega | (simp -implicitDefEqProofs <;> omega) | (simp -implicitDefEqProofs [*] <;> omega) | fail) [-List.map_take, -List.map_drop, -List.length_flatMap, map_take', map_drop', wrap_in, nth_nat, opt_if, dec_t, dec_f]
  refine o_call rfl rfl q1 rfl rfl ?_
  simp -implicitDefEqProofs (disch := first | omega | (simp -implicitDefEqProofs <;> omega) | (simp -implicitDefEqProofs [*] <;> omega) | fail) [-List.map_take, -List.map_drop, -List.length_flatMap, map_take', map_drop', wrap_in, nth_nat, opt_if, dec_t, dec_f]
  refine o_call rfl rfl q2 rfl rfl ?_
  simp -implicitDefEqProofs (disch := first | omega | (simp -implicitDefEqProofs <;> omega) | (simp -implicitDefEqProofs [*] <;> omega) | fail) [-List.map_take, -List.map_drop, -List.length_flatMap, map_take', map_drop', wrap_in, nth_nat, opt_if, dec_t, dec_f]
  refine lp (rsmI k) (fun i => k.files.length - i) 0 ⟨by omega, by simp, by simp, by simp⟩ ?_
  rintro i S ⟨hi, e2, e3, e5⟩
  by_cases hlt : i < k.files.length
  · have k6 : (i : Int) < k.files.length := by omega
    simp -implicitDefEqProofs (disch := first | omega | (simp -implicitDefEqProofs <;> omega) | (simp -implicitDefEqProofs [*] <;> omega) | fail) [-List.map_take, -List.map_drop, -List.length_flatMap, map_take', map_drop', wrap_in, nth_nat, opt_if, dec_t, dec_f, e2, e3, e5, k6]
    exact nxt_of (i + 1) ⟨by omega, by simp -implicitDefEqProofs (disch := first | omega | (simp -implicitDefEqProofs <;> omega) | (simp -implicitDefEqProofs [*] <;> omega) | fail) [-List.map_take, -List.map_drop, -List.length_flatMap, map_take', map_drop', wrap_in, nth_nat, opt_if, dec_t, dec_f, e2], by simp -implicitDefEqProofs (disch := first | omega | (simp -implicitDefEqProofs <;> omega) | (simp -implicitDefEqProofs [*] <;> omega) | fail) [-List.map_take, -List.map_drop, -List.length_flatMap, map_take', map_drop', wrap_in, nth_nat, opt_if, dec_t, dec_f, e3], by simp⟩ (by omega)
  · have k6 : ¬ (i : Int) < k.files.length := by omega
    simp -implicitDefEqProofs (disch := first | omega | (simp -implicitDefEqProofs <;> omega) | (simp -implicitDefEqProofs [*] <;> omega) | fail) [-List.map_take, -List.map_drop, -List.length_flatMap, map_take', map_drop', wrap_in, nth_nat, opt_if, dec_t, dec_f, e2, e3, e5, k6]

def kn1 : Dk := ⟨[⟨[104, 97, 121], 0⟩], [⟨[106], 0⟩], []⟩
def kn2 : Dk := ⟨[⟨[104, 97, 121], 3⟩], [⟨[106], 0⟩], []⟩
def kn3 : Dk := ⟨[⟨[104, 97, 121], 3⟩], [⟨[106], 0⟩], [⟨[106], 0⟩]⟩
theorem kn_1 : appendS dk0 [106] [104, 97, 121] = (kn1, 0) := by kernel_rfl
theorem kn_2 : syncS kn1 [106] = (kn2, 0) := by kernel_rfl
theorem kn_3 : crashS kn2 [] false = dk0 := by kernel_rfl
theorem kn_4 : syncDirS kn2 = kn3 := by kernel_rfl
theorem kn_5 : crashS kn3 [] false = kn3 := by kernel_rfl
theorem kn_6 : getS kn3 [106] = ([104, 97, 121], 0) := by kernel_rfl
theorem kn_7 : goodK kn2 = kn2 := by kernel_rfl
theorem kn_8 : rightK kn2 = true := by kernel_rfl
theorem kn_ok1 : okK kn1 := by simp [okK, sizedK, sizedF, sizedE, kn1]
theorem kn_ok2 : okK kn2 := by simp [okK, sizedK, sizedF, sizedE, kn2]
theorem kn_ok3 : okK kn3 := by simp [okK, sizedK, sizedF, sizedE, kn3]
theorem knows : Holds Try.prog 10 [] (.d (.bool true)) (fun _ => false) := by
  refine Holds.by (by kernel_rfl) Try.func10 (by kernel_rfl) rfl [10011, 80011, 20012] (by simp) (by kernel_rfl) (by kernel_rfl) rfl ?_
  conv in ccs _ => cbv
  have q1 := diskAppend dk0 ok0 [106] [104, 97, 121] (by simp) (by simp)
  have q2 := diskSync kn1 kn_ok1 [106]
  have q3 := diskCrash kn2 kn_ok2 [] (by simp) false
  have q4 := diskSyncDir kn2 kn_ok2
  have q5 := diskCrash kn3 kn_ok3 [] (by simp) false
  have q6 := diskGet kn3 kn_ok3 [106]
  have q7 := diskNames kn2 kn_ok2
  have q8 := diskRight kn2 kn_ok2.1
  rw [kn_1] at q1
  rw [kn_2] at q2
  rw [kn_3] at q3
  rw [kn_4] at q4
  rw [kn_5] at q5
  rw [kn_6] at q6
  rw [kn_7] at q7
  rw [kn_8] at q8
  simp only [Dk.d, dk0, kn1, kn2, kn3, FileD.d, Ent.d, List.map_cons, List.map_nil, byteD] at q1 q2 q3 q4 q5 q6 q7 q8
  simp -implicitDefEqProofs (disch := first | omega | (simp -implicitDefEqProofs <;> omega) | (simp -implicitDefEqProofs [*] <;> omega) | fail) [-List.map_take, -List.map_drop, -List.length_flatMap, map_take', map_drop', wrap_in, nth_nat, opt_if, dec_t, dec_f]
  refine o_call rfl rfl q1 rfl rfl ?_
  simp -implicitDefEqProofs (disch := first | omega | (simp -implicitDefEqProofs <;> omega) | (simp -implicitDefEqProofs [*] <;> omega) | fail) [-List.map_take, -List.map_drop, -List.length_flatMap, map_take', map_drop', wrap_in, nth_nat, opt_if, dec_t, dec_f]
  refine o_call rfl rfl q2 rfl rfl ?_
  simp -implicitDefEqProofs (disch := first | omega | (simp -implicitDefEqProofs <;> omega) | (simp -implicitDefEqProofs [*] <;> omega) | fail) [-List.map_take, -List.map_drop, -List.length_flatMap, map_take', map_drop', wrap_in, nth_nat, opt_if, dec_t, dec_f]
  refine o_call rfl rfl q3 rfl rfl ?_
  simp -implicitDefEqProofs (disch := first | omega | (simp -implicitDefEqProofs <;> omega) | (simp -implicitDefEqProofs [*] <;> omega) | fail) [-List.map_take, -List.map_drop, -List.length_flatMap, map_take', map_drop', wrap_in, nth_nat, opt_if, dec_t, dec_f]
  refine o_call rfl rfl q4 rfl rfl ?_
  simp -implicitDefEqProofs (disch := first | omega | (simp -implicitDefEqProofs <;> omega) | (simp -implicitDefEqProofs [*] <;> omega) | fail) [-List.map_take, -List.map_drop, -List.length_flatMap, map_take', map_drop', wrap_in, nth_nat, opt_if, dec_t, dec_f]
  refine o_call rfl rfl q5 rfl rfl ?_
  simp -implicitDefEqProofs (disch := first | omega | (simp -implicitDefEqProofs <;> omega) | (simp -implicitDefEqProofs [*] <;> omega) | fail) [-List.map_take, -List.map_drop, -List.length_flatMap, map_take', map_drop', wrap_in, nth_nat, opt_if, dec_t, dec_f]
  refine o_call rfl rfl q6 rfl rfl ?_
  simp -implicitDefEqProofs (disch := first | omega | (simp -implicitDefEqProofs <;> omega) | (simp -implicitDefEqProofs [*] <;> omega) | fail) [-List.map_take, -List.map_drop, -List.length_flatMap, map_take', map_drop', wrap_in, nth_nat, opt_if, dec_t, dec_f]
  refine o_call rfl rfl q7 rfl rfl ?_
  simp -implicitDefEqProofs (disch := first | omega | (simp -implicitDefEqProofs <;> omega) | (simp -implicitDefEqProofs [*] <;> omega) | fail) [-List.map_take, -List.map_drop, -List.length_flatMap, map_take', map_drop', wrap_in, nth_nat, opt_if, dec_t, dec_f]
  refine o_call rfl rfl q8 rfl rfl ?_
  simp -implicitDefEqProofs (disch := first | omega | (simp -implicitDefEqProofs <;> omega) | (simp -implicitDefEqProofs [*] <;> omega) | fail) [-List.map_take, -List.map_drop, -List.length_flatMap, map_take', map_drop', wrap_in, nth_nat, opt_if, dec_t, dec_f]

end Go.Proofs.Ytoamihggbaaohaa
