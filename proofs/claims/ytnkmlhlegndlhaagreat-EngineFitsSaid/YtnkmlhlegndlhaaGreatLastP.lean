/- The last leases, in plain terms. -/
import Derived.Test.YtnkmlhlegndlhaaGreatKey
namespace Go.Proofs.YtnkmlhlegndlhaaGreat
open BoEng Go
set_option maxRecDepth 100000
set_option linter.unusedSimpArgs false
set_option linter.unusedVariables false
def posA (xs : List LeaseR) (a : Int) : Nat := (xs.takeWhile fun b => decide (b.addr < a)).length
def isA (xs : List LeaseR) (a : Int) : Bool := decide (posA xs a < xs.length) && decide ((xs.getD (posA xs a) default).addr = a)
def insL (xs : List LeaseR) (l : LeaseR) : List LeaseR := if isA xs l.addr = true then xs.set (posA xs l.addr) l else xs.take (posA xs l.addr) ++ l :: xs.drop (posA xs l.addr)
def SrtA (xs : List LeaseR) : Prop := xs.Pairwise fun a b => a.addr < b.addr
theorem posA_le (xs : List LeaseR) (a : Int) : posA xs a ≤ xs.length := (List.takeWhile_sublist _).length_le
theorem posA_lt {xs : List LeaseR} {a : Int} {j : Nat} (h : j < posA xs a) (hl : j < xs.length) : xs[j].addr < a := by
 have h1 : (xs.takeWhile fun b => decide (b.addr < a)) = xs.take (posA xs a) := List.prefix_iff_eq_take.1 (List.takeWhile_prefix (l := xs) (fun b => decide (b.addr < a)))
 have h2 : xs[j] ∈ xs.takeWhile fun b => decide (b.addr < a) := by
  rw [h1, List.mem_take_iff_getElem]
  exact ⟨j, by omega, rfl⟩
 have h3 := List.all_eq_true.1 (List.all_takeWhile (l := xs) (p := fun b => decide (b.addr < a))) _ h2
 simpa using h3
theorem posA_at {xs : List LeaseR} {a : Int} (h : posA xs a < xs.length) : a ≤ xs[posA xs a].addr := by
 have h1 := List.takeWhile_append_dropWhile (l := xs) (p := fun b => decide (b.addr < a))
 have h2 : (xs.dropWhile fun b => decide (b.addr < a)) = xs.drop (posA xs a) := by
  have h3 := congrArg (List.drop (posA xs a)) h1
  unfold posA at h3 ⊢
  rw [List.drop_left] at h3
  exact h3
 have h4 : (xs.dropWhile fun b => decide (b.addr < a)).head? = some xs[posA xs a] := by
  rw [h2, List.head?_drop]
  simp [h]
 have h5 := List.head?_dropWhile_not (fun b : LeaseR => decide (b.addr < a)) xs
 rw [h4] at h5
 simp at h5
 exact h5
theorem posA_eq {xs : List LeaseR} {a : Int} {i : Nat} (hi : i ≤ xs.length) (h1 : ∀ j (h : j < xs.length), j < i → xs[j].addr < a) (h2 : ∀ h : i < xs.length, a ≤ xs[i].addr) : posA xs a = i := by
 rcases Nat.lt_trichotomy (posA xs a) i with h | h | h
 ·have h3 : posA xs a < xs.length := by omega
  have := h1 _ h3 h
  have := posA_at h3
  omega
 ·exact h
 ·have h3 : i < xs.length := by have := posA_le xs a; omega
  have := posA_lt h h3
  have := h2 h3
  omega
theorem srtA_lt {xs : List LeaseR} (h : SrtA xs) {i j : Nat} (hj : j < xs.length) (hij : i < j) : (xs[i]'(by omega)).addr < xs[j].addr := (List.pairwise_iff_getElem.1 h) i j (by omega) hj hij
theorem srtA_inj {xs : List LeaseR} (h : SrtA xs) {i j : Nat} (hi : i < xs.length) (hj : j < xs.length) (e : xs[i].addr = xs[j].addr) : i = j := by
 rcases Nat.lt_trichotomy i j with h1 | h1 | h1
 ·have := srtA_lt h hj h1; omega
 ·exact h1
 ·have := srtA_lt h hi h1; omega
theorem isA_iff {xs : List LeaseR} (h : SrtA xs) {a : Int} : isA xs a = true ↔ ∃ b ∈ xs, b.addr = a := by
 constructor
 ·intro h1
  simp only [isA, Bool.and_eq_true, decide_eq_true_eq] at h1
  obtain ⟨h2, h3⟩ := h1
  rw [List.getD_eq_getElem?_getD, List.getElem?_eq_getElem h2] at h3
  exact ⟨_, List.getElem_mem h2, h3⟩
 ·rintro ⟨b, hb, rfl⟩
  obtain ⟨i, hi, rfl⟩ := List.mem_iff_getElem.1 hb
  have : posA xs xs[i].addr = i := posA_eq (by omega) (fun j hj hji => srtA_lt h hi hji) (fun _ => Int.le_refl _)
  simp only [isA, this, hi, decide_true, List.getD_eq_getElem?_getD, List.getElem?_eq_getElem hi, Option.getD_some, Bool.and_self]
theorem isA_pos {xs : List LeaseR} {a : Int} (h : isA xs a = true) : ∃ hl : posA xs a < xs.length, xs[posA xs a].addr = a := by
 simp only [isA, Bool.and_eq_true, decide_eq_true_eq] at h
 obtain ⟨h2, h3⟩ := h
 rw [List.getD_eq_getElem?_getD, List.getElem?_eq_getElem h2] at h3
 exact ⟨h2, h3⟩
theorem insL_spec {xs : List LeaseR} (h : SrtA xs) (l : LeaseR) : SrtA (insL xs l) ∧ ∀ b, b ∈ insL xs l ↔ b = l ∨ (b ∈ xs ∧ b.addr ≠ l.addr) := by
 unfold insL
 split
 ·rename_i hc
  obtain ⟨hl, he⟩ := isA_pos hc
  constructor
  ·unfold SrtA
   rw [List.pairwise_iff_getElem]
   intro i j hi hj hij
   simp only [List.length_set] at hi hj
   simp only [List.getElem_set]
   have := srtA_lt h hj hij
   split
   ·rename_i e
    subst e
    rw [if_neg (by omega)]
    omega
   ·split
    ·rename_i e
     subst e
     omega
    ·exact this
  ·intro b
   constructor
   ·intro hb
    rw [List.mem_iff_getElem] at hb
    obtain ⟨i, hi, rfl⟩ := hb
    simp only [List.length_set] at hi
    simp only [List.getElem_set]
    split
    ·exact .inl rfl
    ·rename_i hne
     refine .inr ⟨List.getElem_mem _, fun e => hne ?_⟩
     exact srtA_inj h hl hi (by rw [he, e])
   ·rintro (rfl | ⟨hb, hne⟩)
    ·exact List.mem_iff_getElem.2 ⟨posA xs b.addr, by simpa using hl, by simp⟩
    ·obtain ⟨i, hi, rfl⟩ := List.mem_iff_getElem.1 hb
     refine List.mem_iff_getElem.2 ⟨i, by simpa using hi, ?_⟩
     rw [List.getElem_set_ne]
     intro e
     subst e
     exact hne he
 ·rename_i hc
  have hno : ∀ b ∈ xs, b.addr ≠ l.addr := fun b hb e => hc ((isA_iff h).2 ⟨b, hb, e⟩)
  have hlo : ∀ b ∈ xs.take (posA xs l.addr), b.addr < l.addr := by
   intro b hb
   obtain ⟨j, hj, rfl⟩ := List.mem_take_iff_getElem.1 hb
   exact posA_lt (by omega) (by omega)
  have hhi : ∀ b ∈ xs.drop (posA xs l.addr), l.addr < b.addr := by
   intro b hb
   obtain ⟨j, hj, rfl⟩ := List.mem_drop_iff_getElem.1 hb
   have ha : posA xs l.addr < xs.length := by omega
   have h0 := posA_at ha
   have h1 := hno _ (List.getElem_mem ha)
   by_cases e0 : j = 0
   ·subst e0; simp only [Nat.add_zero]; omega
   ·have := srtA_lt (i := posA xs l.addr) (j := posA xs l.addr + j) h (by omega) (by omega)
    omega
  constructor
  ·unfold SrtA
   rw [List.pairwise_append]
   refine ⟨List.Pairwise.sublist (List.take_sublist _ _) h, List.pairwise_cons.2 ⟨hhi, List.Pairwise.sublist (List.drop_sublist _ _) h⟩, fun a ha b hb => ?_⟩
   rcases List.mem_cons.1 hb with rfl | hb
   ·exact hlo a ha
   ·have := hlo a ha
    have := hhi b hb
    omega
  ·intro b
   rw [List.mem_append, List.mem_cons]
   have hm : b ∈ xs ↔ b ∈ xs.take (posA xs l.addr) ∨ b ∈ xs.drop (posA xs l.addr) := by
    rw [← List.mem_append, List.take_append_drop]
   constructor
   ·rintro (hb | rfl | hb)
    ·exact .inr ⟨hm.2 (.inl hb), hno _ (hm.2 (.inl hb))⟩
    ·exact .inl rfl
    ·exact .inr ⟨hm.2 (.inr hb), hno _ (hm.2 (.inr hb))⟩
   ·rintro (rfl | ⟨hb, _⟩)
    ·exact .inr (.inl rfl)
    ·rcases hm.1 hb with h1 | h1
     ·exact .inl h1
     ·exact .inr (.inr h1)
theorem insL_len (xs : List LeaseR) (l : LeaseR) : (insL xs l).length = if isA xs l.addr = true then xs.length else xs.length + 1 := by
 unfold insL
 have := posA_le xs l.addr
 split
 ·simp
 ·simp; omega
end Go.Proofs.YtnkmlhlegndlhaaGreat
