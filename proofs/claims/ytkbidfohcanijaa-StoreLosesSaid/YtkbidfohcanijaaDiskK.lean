/- A disk, and acts, that the row reads are disks and acts. -/
import Derived.Test.YtkbidfohcanijaaDiskL
namespace Go.Proofs.Ytkbidfohcanijaa
open BoEng Go
set_option maxRecDepth 100000

theorem maxLen_le : maxLen ≤ 9223372036854775807 := by decide
theorem fileD_of {n : Nat} {ds : List DV} (h : typC Try.prog n 85 ds) : ∃ f : FileD, mkD Try.prog 85 ds = f.d ∧ True := by
  cases n with
  | zero => exact h.elim
  | succ n =>
    unfold typC at h
    rw [Try.underlying85] at h
    obtain ⟨_, _, rfl, h1, _, _, rfl, h2, rfl⟩ := h
    obtain ⟨a, rfl, k1⟩ := typC_bytes und83 und5 h1
    obtain ⟨b, rfl, k2⟩ := typC_int und3 h2
    exact ⟨⟨a, b⟩, by simp [mkD, Try.underlying85, FileD.d], trivial⟩
theorem ent_of {n : Nat} {ds : List DV} (h : typC Try.prog n 90 ds) : ∃ e : Ent, mkD Try.prog 90 ds = e.d ∧ e.name.length ≤ maxLen := by
  cases n with
  | zero => exact h.elim
  | succ n =>
    unfold typC at h
    rw [Try.underlying90] at h
    obtain ⟨_, _, rfl, h1, _, _, rfl, h2, rfl⟩ := h
    obtain ⟨a, rfl, k1⟩ := typC_str und9 h1
    obtain ⟨b, rfl, k2⟩ := typC_int und3 h2
    exact ⟨⟨a, b⟩, by simp [mkD, Try.underlying90, Ent.d], k1⟩
theorem dk_of {n : Nat} {x : DV} (h : typD Try.prog n 30 x) : ∃ k : Dk, x = k.d ∧ DkOk k := by
  obtain ⟨ds, h, rfl⟩ := h
  cases n with
  | zero => exact h.elim
  | succ n =>
    unfold typC at h
    rw [Try.underlying30] at h
    obtain ⟨_, _, rfl, h1, _, _, rfl, h2, _, _, rfl, h3, rfl⟩ := h
    obtain ⟨a, rfl, k1, _⟩ := typC_slice und27 (fun n ds h => fileD_of h) h1
    obtain ⟨b, rfl, k2, k4⟩ := typC_slice und28 (fun n ds h => ent_of h) h2
    obtain ⟨c, rfl, k3, k5⟩ := typC_slice und28 (fun n ds h => ent_of h) h3
    exact ⟨⟨a, b, c⟩, by simp [mkD, Try.underlying30, Dk.d], Nat.le_trans k1 maxLen_le, Nat.le_trans k2 maxLen_le, Nat.le_trans k3 maxLen_le, fun e he => Nat.le_trans (k4 e he) maxLen_le, fun e he => Nat.le_trans (k5 e he) maxLen_le⟩
theorem ints_of {n : Nat} {x : DV} (h : typD Try.prog n 52 x) : ∃ l : List Int, x = .slice (l.map intD) ∧ l.length ≤ maxLen := by
  obtain ⟨ds, h, rfl⟩ := h
  obtain ⟨l, rfl, h1, h2⟩ := typC_ints und52 und3 h
  exact ⟨l, by simp [mkD, intD], h1⟩
end Go.Proofs.Ytkbidfohcanijaa
