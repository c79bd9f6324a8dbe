/- A configuration that the row reads is a configuration. -/
import Derived.Test.YtimlalndjfmnbaaDoorConfP
namespace Go.Proofs.YtimlalndjfmnbaaDoor
open BoEng Go
set_option maxRecDepth 100000

theorem rng_of {n : Nat} {ds : List DV} (h : typC Tryd.prog n 109 ds) : ∃ p : Rng, mkD Tryd.prog 109 ds = p.d ∧ (inI p.first ∧ inI p.last) := by
  cases n with
  | zero => exact h.elim
  | succ n =>
    unfold typC at h
    rw [Tryd.underlying109] at h
    obtain ⟨_, _, rfl, h1, _, _, rfl, h2, rfl⟩ := h
    obtain ⟨a, rfl, k1⟩ := typC_int und3 h1
    obtain ⟨b, rfl, k2⟩ := typC_int und3 h2
    exact ⟨⟨a, b⟩, by simp [mkD, Tryd.underlying109], k1, k2⟩
theorem res_of {n : Nat} {ds : List DV} (h : typC Tryd.prog n 107 ds) : ∃ r : Res, mkD Tryd.prog 107 ds = r.d ∧ (r.key.length ≤ maxLen ∧ inI r.addr) := by
  cases n with
  | zero => exact h.elim
  | succ n =>
    unfold typC at h
    rw [Tryd.underlying107] at h
    obtain ⟨_, _, rfl, h1, _, _, rfl, h2, rfl⟩ := h
    obtain ⟨a, rfl, k1⟩ := typC_str und9 h1
    obtain ⟨b, rfl, k2⟩ := typC_int und3 h2
    exact ⟨⟨a, b⟩, by simp [mkD, Tryd.underlying107], k1, k2⟩
def SubOk (s : Sub) : Prop := inI s.base ∧ inI s.bits ∧ s.pools.length ≤ maxLen ∧ s.res.length ≤ maxLen ∧ inI s.iface ∧ inI s.router ∧ inI s.time ∧ (∀ p ∈ s.pools, inI p.first ∧ inI p.last) ∧ ∀ r ∈ s.res, r.key.length ≤ maxLen ∧ inI r.addr
theorem sub_of {n : Nat} {ds : List DV} (h : typC Tryd.prog n 88 ds) : ∃ s : Sub, mkD Tryd.prog 88 ds = s.d ∧ SubOk s := by
  cases n with
  | zero => exact h.elim
  | succ n =>
    unfold typC at h
    rw [Tryd.underlying88] at h
    obtain ⟨_, _, rfl, h1, _, _, rfl, h2, _, _, rfl, h3, _, _, rfl, h4, _, _, rfl, h5, _, _, rfl, h6, _, _, rfl, h7, rfl⟩ := h
    obtain ⟨a1, rfl, k1⟩ := typC_int und3 h1
    obtain ⟨a2, rfl, k2⟩ := typC_int und3 h2
    obtain ⟨ps, rfl, k3, k3'⟩ := typC_slice und85 (fun n ds h => rng_of h) h3
    obtain ⟨rs, rfl, k4, k4'⟩ := typC_slice und86 (fun n ds h => res_of h) h4
    obtain ⟨a5, rfl, k5⟩ := typC_int und3 h5
    obtain ⟨a6, rfl, k6⟩ := typC_int und3 h6
    obtain ⟨a7, rfl, k7⟩ := typC_int und3 h7
    exact ⟨⟨a1, a2, ps, rs, a5, a6, a7⟩, by simp [mkD, Tryd.underlying88], k1, k2, k3, k4, k5, k6, k7, k3', k4'⟩
theorem net_of {n : Nat} {ds : List DV} (h : typC Tryd.prog n 91 ds) : ∃ x : Net, mkD Tryd.prog 91 ds = x.d ∧ (x.subs.length ≤ maxLen ∧ ∀ s ∈ x.subs, SubOk s) := by
  cases n with
  | zero => exact h.elim
  | succ n =>
    unfold typC at h
    rw [Tryd.underlying91] at h
    obtain ⟨_, _, rfl, h1, rfl⟩ := h
    obtain ⟨l, rfl, k1, k2⟩ := typC_slice und89 (fun n ds h => sub_of h) h1
    exact ⟨⟨l⟩, by simp [mkD, Tryd.underlying91], k1, k2⟩
def CfgOk (c : Cfg) : Prop := inI c.server ∧ inI c.probation ∧ c.nets.length ≤ maxLen ∧ ∀ n ∈ c.nets, n.subs.length ≤ maxLen ∧ ∀ s ∈ n.subs, SubOk s
theorem cfg_of {n : Nat} {x : DV} (h : typD Tryd.prog n 52 x) : ∃ c : Cfg, x = c.d ∧ CfgOk c := by
  obtain ⟨ds, h, rfl⟩ := h
  cases n with
  | zero => exact h.elim
  | succ n =>
    unfold typC at h
    rw [Tryd.underlying52] at h
    obtain ⟨_, _, rfl, h1, _, _, rfl, h2, _, _, rfl, h3, rfl⟩ := h
    obtain ⟨a1, rfl, k1⟩ := typC_int und3 h1
    obtain ⟨a2, rfl, k2⟩ := typC_int und3 h2
    obtain ⟨l, rfl, k3, k4⟩ := typC_slice und50 (fun n ds h => net_of h) h3
    exact ⟨⟨a1, a2, l⟩, by simp [mkD, Tryd.underlying52], k1, k2, k3, k4⟩
end Go.Proofs.YtimlalndjfmnbaaDoor
