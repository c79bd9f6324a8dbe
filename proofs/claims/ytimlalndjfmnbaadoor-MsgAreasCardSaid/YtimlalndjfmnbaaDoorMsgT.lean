/- A message that the row reads is a message. -/
import Derived.Test.YtimlalndjfmnbaaDoorTy
namespace Go.Proofs.YtimlalndjfmnbaaDoor
open BoEng Go
set_option maxRecDepth 100000

theorem opt_of {n : Nat} {ds : List DV} (h : typC Tryd.prog n 45 ds) : ∃ o : Opt, mkD Tryd.prog 45 ds = o.d ∧ inI o.code ∧ o.data.length ≤ maxLen := by
  cases n with
  | zero => exact h.elim
  | succ n =>
    unfold typC at h
    rw [Tryd.underlying45] at h
    obtain ⟨_, _, rfl, h1, _, _, rfl, h2, rfl⟩ := h
    obtain ⟨code, rfl, hc⟩ := typC_int und3 h1
    obtain ⟨data, rfl, hd⟩ := typC_bytes und22 und5 h2
    refine ⟨⟨code, data⟩, ?_, hc, hd⟩
    simp [mkD, Tryd.underlying45]

def MsgOk (m : Msg) : Prop := (inI m.op ∧ inI m.htype ∧ inI m.hlen ∧ inI m.hops ∧ inI m.xid ∧ inI m.secs ∧ inI m.flags ∧ inI m.ci ∧ inI m.yi ∧ inI m.si ∧ inI m.gi) ∧
  m.chaddr.length ≤ maxLen ∧ m.opts.length ≤ maxLen ∧ ∀ o ∈ m.opts, inI o.code ∧ o.data.length ≤ maxLen

theorem msg_of {n : Nat} {x : DV} (h : typD Tryd.prog n 25 x) : ∃ m : Msg, x = m.d ∧ MsgOk m := by
  obtain ⟨ds, h, rfl⟩ := h
  cases n with
  | zero => exact h.elim
  | succ n =>
    unfold typC at h
    rw [Tryd.underlying25] at h
    obtain ⟨_, _, rfl, h1, _, _, rfl, h2, _, _, rfl, h3, _, _, rfl, h4, _, _, rfl, h5, _, _, rfl, h6, _, _, rfl, h7, _, _, rfl, h8, _, _, rfl, h9, _, _, rfl, h10, _, _, rfl, h11, _, _, rfl, h12, _, _, rfl, h13, rfl⟩ := h
    obtain ⟨a1, rfl, k1⟩ := typC_int und3 h1
    obtain ⟨a2, rfl, k2⟩ := typC_int und3 h2
    obtain ⟨a3, rfl, k3⟩ := typC_int und3 h3
    obtain ⟨a4, rfl, k4⟩ := typC_int und3 h4
    obtain ⟨a5, rfl, k5⟩ := typC_int und3 h5
    obtain ⟨a6, rfl, k6⟩ := typC_int und3 h6
    obtain ⟨a7, rfl, k7⟩ := typC_int und3 h7
    obtain ⟨a8, rfl, k8⟩ := typC_int und3 h8
    obtain ⟨a9, rfl, k9⟩ := typC_int und3 h9
    obtain ⟨a10, rfl, k10⟩ := typC_int und3 h10
    obtain ⟨a11, rfl, k11⟩ := typC_int und3 h11
    obtain ⟨ch, rfl, k12⟩ := typC_bytes und22 und5 h12
    obtain ⟨os, rfl, k13, k14⟩ := typC_slice und23 (fun n ds h => opt_of h) h13
    refine ⟨⟨a1, a2, a3, a4, a5, a6, a7, a8, a9, a10, a11, ch, os⟩, ?_, ⟨k1, k2, k3, k4, k5, k6, k7, k8, k9, k10, k11⟩, k12, k13, k14⟩
    simp [mkD, Tryd.underlying25]
end Go.Proofs.YtimlalndjfmnbaaDoor
