/- What was read of a disk has few leases. -/
import Derived.Test.YtkbidfohcanijaaGreatJrnR
namespace Go.Proofs.YtkbidfohcanijaaGreat
open BoEng Go
set_option maxRecDepth 100000
set_option linter.unusedSimpArgs false
set_option linter.unusedVariables false

theorem jrd_bad (b : List UInt8) : ∀ (m a : Nat) (out : List LeaseR), b.length - a ≤ m → a ≤ b.length → (jrd b a out).2.2 = 2 → (jrd b a out).1 = [] := by
  intro m
  induction m with
  | zero =>
    intro a out hm ha h
    rcases jrd_cases ha out with ⟨_, e⟩ | ⟨h1, _, e⟩ | e | ⟨h1, _⟩
    · rw [e] at h; simp at h
    · rw [e] at h; simp at h
    · rw [e]
    · omega
  | succ m ih =>
    intro a out hm ha h
    rcases jrd_cases ha out with ⟨_, e⟩ | ⟨h1, _, e⟩ | e | ⟨h1, _, _, p1, p2, e⟩
    · rw [e] at h; simp at h
    · rw [e] at h; simp at h
    · rw [e]
    · rw [e] at h ⊢
      exact ih _ _ (by omega) p2 h
/-- What was read has few leases. -/
theorem read_few (k : Dk) : (readJ (getS k [106]).1).1.length ≤ 20000 := by
  generalize hr : readJ (getS k [106]).1 = r
  obtain ⟨xs, n, e⟩ := r
  have he := read_err (getS k [106]).1
  rw [hr] at he
  dsimp only at he ⊢
  have hl := get_len k [106]
  rcases he with rfl | rfl | rfl
  · have h1 := read_whole hr
    have := (read_right hr (.inl rfl)).2.2
    omega
  · obtain ⟨q, rfl, h1, h2⟩ := read_cut hr
    have := (read_right h2 (.inl rfl)).2.2
    omega
  · have : xs = [] := by
      have := jrd_bad (getS k [106]).1 (getS k [106]).1.length 0 [] (by omega) (by omega) (by show (readJ _).2.2 = 2; rw [hr])
      have e : (readJ (getS k [106]).1).1 = [] := this
      rw [hr] at e
      exact e
    subst this
    simp

end Go.Proofs.YtkbidfohcanijaaGreat
