/- A disk, and acts, that the row reads are disks and acts. -/
import Derived.Test.YtoamihggbaaohaaDiskL
namespace Go.Proofs.Ytoamihggbaaohaa
open BoEng Go
set_option maxRecDepth 100000

theorem maxLen_le : maxLen ≤ 9223372036854775807 := by decide
theorem fileD_of {n : Nat} {ds : List DV} (h : typC Try.prog n 68 ds) : ∃ f : FileD, mkD Try.prog 68 ds = f.d ∧ True := by
  cases n with
  | zero => exact h.elim
  | succ n =>
    unfold typC at h
    rw [Try.underlying68] at h
    obtain ⟨_, _, rfl, h1, _, _, rfl, h2, rfl⟩ := h
    obtain ⟨a, rfl, k1⟩ := typC_bytes und33 und5 h1
    obtain ⟨b, rfl, k2⟩ := typC_int und3 h2
    exact ⟨⟨a, b⟩, by simp [mkD, Try.underlying68, FileD.d], trivial⟩
theorem ent_of {n : Nat} {ds : List DV} (h : typC Try.prog n 70 ds) : ∃ e : Ent, mkD Try.prog 70 ds = e.d ∧ e.name.length ≤ maxLen := by
  cases n with
  | zero => exact h.elim
  | succ n =>
    unfold typC at h
    rw [Try.underlying70] at h
    obtain ⟨_, _, rfl, h1, _, _, rfl, h2, rfl⟩ := h
    obtain ⟨a, rfl, k1⟩ := typC_str und9 h1
    obtain ⟨b, rfl, k2⟩ := typC_int und3 h2
    exact ⟨⟨a, b⟩, by simp [mkD, Try.underlying70, Ent.d], k1⟩
theorem dk_of {n : Nat} {x : DV} (h : typD Try.prog n 25 x) : ∃ k : Dk, x = k.d ∧ DkOk k := by
  obtain ⟨ds, h, rfl⟩ := h
  cases n with
  | zero => exact h.elim
  | succ n =>
    unfold typC at h
    rw [Try.underlying25] at h
    obtain ⟨_, _, rfl, h1, _, _, rfl, h2, _, _, rfl, h3, rfl⟩ := h
    obtain ⟨a, rfl, k1, _⟩ := typC_slice und22 (fun n ds h => fileD_of h) h1
    obtain ⟨b, rfl, k2, k4⟩ := typC_slice und23 (fun n ds h => ent_of h) h2
    obtain ⟨c, rfl, k3, k5⟩ := typC_slice und23 (fun n ds h => ent_of h) h3
    exact ⟨⟨a, b, c⟩, by simp [mkD, Try.underlying25, Dk.d], Nat.le_trans k1 maxLen_le, Nat.le_trans k2 maxLen_le, Nat.le_trans k3 maxLen_le, fun e he => Nat.le_trans (k4 e he) maxLen_le, fun e he => Nat.le_trans (k5 e he) maxLen_le⟩
theorem actC_of {n : Nat} {ds : List DV} (h : typC Try.prog n 54 ds) : ∃ a : ActR, mkD Try.prog 54 ds = a.d ∧ ActOk a := by
  cases n with
  | zero => exact h.elim
  | succ n =>
    unfold typC at h
    rw [Try.underlying54] at h
    obtain ⟨_, _, rfl, h1, _, _, rfl, h2, _, _, rfl, h3, _, _, rfl, h4, _, _, rfl, h5, _, _, rfl, h6, _, _, rfl, h7, rfl⟩ := h
    obtain ⟨a1, rfl, k1⟩ := typC_int und3 h1
    obtain ⟨a2, rfl, k2⟩ := typC_int und3 h2
    obtain ⟨a3, rfl, k3⟩ := typC_str und9 h3
    obtain ⟨a4, rfl, k4⟩ := typC_str und9 h4
    obtain ⟨a5, rfl, k5⟩ := typC_bytes und33 und5 h5
    obtain ⟨a6, rfl, k6, _⟩ := typC_ints und47 und3 h6
    obtain ⟨a7, rfl⟩ := typC_bool und4 h7
    exact ⟨⟨a1, a2, a3, a4, a5, a6, a7⟩, by simp [mkD, Try.underlying54, ActR.d, intD], Nat.le_trans k3 maxLen_le, Nat.le_trans k4 maxLen_le, Nat.le_trans k5 maxLen_le, Nat.le_trans k6 maxLen_le⟩
theorem act_of {n : Nat} {x : DV} (h : typD Try.prog n 54 x) : ∃ a : ActR, x = a.d ∧ ActOk a := by
  obtain ⟨ds, h, rfl⟩ := h
  exact actC_of h
theorem acts_of {n : Nat} {x : DV} (h : typD Try.prog n 46 x) : ∃ l : List ActR, x = .slice (l.map ActR.d) ∧ l.length ≤ maxLen ∧ ∀ a ∈ l, ActOk a := by
  obtain ⟨ds, h, rfl⟩ := h
  obtain ⟨l, rfl, h1, h2⟩ := typC_slice und46 (fun n ds h => actC_of h) h
  exact ⟨l, by simp [mkD], h1, h2⟩
theorem ints_of {n : Nat} {x : DV} (h : typD Try.prog n 47 x) : ∃ l : List Int, x = .slice (l.map intD) ∧ l.length ≤ maxLen := by
  obtain ⟨ds, h, rfl⟩ := h
  obtain ⟨l, rfl, h1, h2⟩ := typC_ints und47 und3 h
  exact ⟨l, by simp [mkD, intD], h1⟩
end Go.Proofs.Ytoamihggbaaohaa
