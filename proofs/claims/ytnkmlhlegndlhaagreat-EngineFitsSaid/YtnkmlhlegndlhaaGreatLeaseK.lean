/- A lease, and leases, that the row reads are leases. -/
import Derived.Test.YtnkmlhlegndlhaaGreatKey
namespace Go.Proofs.YtnkmlhlegndlhaaGreat
open BoEng Go
set_option maxRecDepth 100000
theorem leaseC_of {n : Nat} {ds : List DV} (h : typC Tryz.prog n 35 ds) : ∃ a : LeaseR, mkD Tryz.prog 35 ds = a.d ∧ a.key.length ≤ maxLen := by
 cases n with
 | zero => exact h.elim
 | succ n =>
   unfold typC at h
   rw [Tryz.underlying35] at h
   obtain ⟨_, _, rfl, h1, _, _, rfl, h2, _, _, rfl, h3, _, _, rfl, h4, rfl⟩ := h
   obtain ⟨a1, rfl, k1⟩ := typC_int und3 h1
   obtain ⟨a2, rfl, k2⟩ := typC_int und3 h2
   obtain ⟨a3, rfl, k3⟩ := typC_int und3 h3
   obtain ⟨a4, rfl, k4⟩ := typC_str und9 h4
   exact ⟨⟨a1, a2, a3, a4⟩, by simp [mkD, Tryz.underlying35, LeaseR.d], k4⟩
theorem leases_of {n : Nat} {x : DV} (h : typD Tryz.prog n 25 x) : ∃ l : List LeaseR, x = .slice (l.map LeaseR.d) ∧ l.length ≤ maxLen ∧ ∀ a ∈ l, a.key.length ≤ maxLen := by
 obtain ⟨ds, h, rfl⟩ := h
 obtain ⟨l, rfl, h1, h2⟩ := typC_slice und25 (fun n ds h => leaseC_of h) h
 exact ⟨l, by simp [mkD], h1, h2⟩
end Go.Proofs.YtnkmlhlegndlhaaGreat
