/- A disk, and acts, that the row reads are disks and acts. -/
import Derived.Test.YtkbidfohcanijaaGreatDiskL
namespace Go.Proofs.YtkbidfohcanijaaGreat
open BoEng Go
set_option maxRecDepth 100000

theorem maxLen_le : maxLen ≤ 9223372036854775807 := by decide
theorem fileD_of {n : Nat} {ds : List DV} (h : typC Tryz.prog n 72 ds) : ∃ f : FileD, mkD Tryz.prog 72 ds = f.d ∧ True := by
  cases n with
  | zero => exact h.elim
  | succ n =>
    unfold typC at h
    rw [Tryz.underlying72] at h
    obtain ⟨_, _, rfl, h1, _, _, rfl, h2, rfl⟩ := h
    obtain ⟨a, rfl, k1⟩ := typC_bytes und70 und5 h1
    obtain ⟨b, rfl, k2⟩ := typC_int und3 h2
    exact ⟨⟨a, b⟩, by simp [mkD, Tryz.underlying72, FileD.d], trivial⟩
theorem ent_of {n : Nat} {ds : List DV} (h : typC Tryz.prog n 84 ds) : ∃ e : Ent, mkD Tryz.prog 84 ds = e.d ∧ e.name.length ≤ maxLen := by
  cases n with
  | zero => exact h.elim
  | succ n =>
    unfold typC at h
    rw [Tryz.underlying84] at h
    obtain ⟨_, _, rfl, h1, _, _, rfl, h2, rfl⟩ := h
    obtain ⟨a, rfl, k1⟩ := typC_str und9 h1
    obtain ⟨b, rfl, k2⟩ := typC_int und3 h2
    exact ⟨⟨a, b⟩, by simp [mkD, Tryz.underlying84, Ent.d], k1⟩
theorem dk_of {n : Nat} {x : DV} (h : typD Tryz.prog n 26 x) : ∃ k : Dk, x = k.d ∧ DkOk k := by
  obtain ⟨ds, h, rfl⟩ := h
  cases n with
  | zero => exact h.elim
  | succ n =>
    unfold typC at h
    rw [Tryz.underlying26] at h
    obtain ⟨_, _, rfl, h1, _, _, rfl, h2, _, _, rfl, h3, rfl⟩ := h
    obtain ⟨a, rfl, k1, _⟩ := typC_slice und23 (fun n ds h => fileD_of h) h1
    obtain ⟨b, rfl, k2, k4⟩ := typC_slice und24 (fun n ds h => ent_of h) h2
    obtain ⟨c, rfl, k3, k5⟩ := typC_slice und24 (fun n ds h => ent_of h) h3
    exact ⟨⟨a, b, c⟩, by simp [mkD, Tryz.underlying26, Dk.d], Nat.le_trans k1 maxLen_le, Nat.le_trans k2 maxLen_le, Nat.le_trans k3 maxLen_le, fun e he => Nat.le_trans (k4 e he) maxLen_le, fun e he => Nat.le_trans (k5 e he) maxLen_le⟩
theorem ints_of {n : Nat} {x : DV} (h : typD Tryz.prog n 81 x) : ∃ l : List Int, x = .slice (l.map intD) ∧ l.length ≤ maxLen := by
  obtain ⟨ds, h, rfl⟩ := h
  obtain ⟨l, rfl, h1, h2⟩ := typC_ints und81 und3 h
  exact ⟨l, by simp [mkD, intD], h1⟩
end Go.Proofs.YtkbidfohcanijaaGreat
