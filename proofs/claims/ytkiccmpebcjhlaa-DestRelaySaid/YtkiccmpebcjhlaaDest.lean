/- Where a reply goes: what the program's dest.Of and the document's both answer. -/
import Derived.Test.YtkiccmpebcjhlaaTy
namespace Go.Proofs.Ytkiccmpebcjhlaa
open BoEng Go
set_option maxRecDepth 100000
set_option linter.unusedSimpArgs false

/-- Where something goes. -/
def destD (a : Int) (p : Int) (r : Bool) : DV := .agg [.int .i64 a, .int .i64 p, .bool r]
@[simp] theorem destD_eq (a : Int) (p : Int) (r : Bool) : destD a p r = .agg [.int .i64 a, .int .i64 p, .bool r] := rfl
def destS (m : Msg) (kind yi : Int) : DV :=
  if m.gi ≠ 0 then destD m.gi 67 false
  else if kind = 6 then destD 4294967295 68 false
  else if m.ci ≠ 0 then destD m.ci 68 false
  else if 32768 ≤ m.flags ∧ m.flags ≤ 65535 then destD 4294967295 68 false
  else destD yi 68 true

theorem destOf (m : Msg) (kind yi : Int) : Holds Try.prog 8 [.d m.d, .d (.int .i64 kind), .d (.int .i64 yi)] (.d (destS m kind yi)) (fun _ => false) := by
  refine Holds.by (by kernel_rfl) Try.func8 (by kernel_rfl) rfl [] (by simp) (by kernel_rfl) (by kernel_rfl) rfl ?_
  conv in ccs _ => cbv
  by_cases h1 : m.gi = 0
  · by_cases h2 : kind = 6
    · simp -implicitDefEqProofs [h1, h2, destS]
    · by_cases h3 : m.ci = 0
      · by_cases h4 : 32768 ≤ m.flags
        · by_cases h5 : m.flags ≤ 65535
          · have h6 : m.flags < 65536 := by omega
            simp -implicitDefEqProofs [h1, h2, h3, h4, h5, h6, destS]
          · have h6 : ¬ m.flags < 65536 := by omega
            simp -implicitDefEqProofs [h1, h2, h3, h4, h5, h6, destS]
        · simp -implicitDefEqProofs [h1, h2, h3, h4, destS]
      · simp -implicitDefEqProofs [h1, h2, h3, destS]
  · simp -implicitDefEqProofs [h1, destS]

theorem refOf (m : Msg) (kind yi : Int) : Holds Try.prog 9 [.d m.d, .d (.int .i64 kind), .d (.int .i64 yi)] (.d (destS m kind yi)) (fun _ => false) := by
  refine Holds.by (by kernel_rfl) Try.func9 (by kernel_rfl) rfl [] (by simp) (by kernel_rfl) (by kernel_rfl) rfl ?_
  conv in ccs _ => cbv
  by_cases h1 : m.gi = 0
  · by_cases h2 : kind = 6
    · simp -implicitDefEqProofs [h1, h2, destS]
    · by_cases h3 : m.ci = 0
      · by_cases h4 : 32768 ≤ m.flags
        · by_cases h5 : m.flags ≤ 65535
          · simp -implicitDefEqProofs [h1, h2, h3, h4, h5, destS]
          · simp -implicitDefEqProofs [h1, h2, h3, h4, h5, destS]
        · simp -implicitDefEqProofs [h1, h2, h3, h4, destS]
      · simp -implicitDefEqProofs [h1, h2, h3, destS]
  · simp -implicitDefEqProofs [h1, destS]

/-- The program's message is the document's. -/
theorem lawAs (m : Msg) : Holds Try.prog 10 [.d m.d] (.d m.d) (fun _ => false) := by
  refine Holds.by (by kernel_rfl) Try.func10 (by kernel_rfl) rfl [] (by simp) (by kernel_rfl) (by kernel_rfl) rfl ?_
  conv in ccs _ => cbv
  simp -implicitDefEqProofs []

/-- Options that are too great to be looked at. -/
def greatS (l : List Opt) : Bool := l.any (fun o => decide (1000 < o.data.length)) || decide (100 < l.length)


def gI (l : List Opt) (i : Nat) (S : PS) : Prop :=
  i ≤ l.length ∧ S.t 0 = .d (.slice (l.map Opt.d)) ∧ S.t 3 = .d (.int .i64 i) ∧ (l.take i).any (fun o => decide (1000 < o.data.length)) = false

theorem great03 (l : List Opt) (hl : l.length ≤ 9223372036854775807) : Holds Try.prog 11 [.d (.slice (l.map Opt.d))] (.d (.bool (greatS l))) (fun _ => false) := by
  refine Holds.by (by kernel_rfl) Try.func11 (by kernel_rfl) rfl [] (by simp) (by kernel_rfl) (by kernel_rfl) rfl ?_
  conv in ccs _ => cbv
  simp -implicitDefEqProofs []
  refine lp (gI l) (fun i => l.length - i) 0 ⟨Nat.zero_le _, by simp, by simp, by simp⟩ ?_
  rintro i S ⟨hi, h0, h3, ha⟩
  by_cases hlt : i < l.length
  · have hw : IntKind.i64.wrap ((i : Int) + 1) = ((i + 1 : Nat) : Int) := by rw [wrap_in (by omega)]; omega
    have hn := nth_nat hlt
    have hli : (i : Int) < (l.length : Int) := by omega
    by_cases hb : 1000 < l[i].data.length
    · have hb' : (1000 : Int) < (l[i].data.length : Int) := by omega
      have hg : greatS l = true := by
        simp only [greatS, Bool.or_eq_true, List.any_eq_true, decide_eq_true_eq]
        exact .inl ⟨l[i], List.getElem_mem hlt, hb⟩
      simp -implicitDefEqProofs [h0, h3, hlt, hn, hb, hb', hli, hg]
    · have hb' : ¬ (1000 : Int) < (l[i].data.length : Int) := by omega
      simp -implicitDefEqProofs [h0, h3, hlt, hn, hb, hb', hw, hli]
      refine ⟨i + 1, ⟨by omega, by simp [h0], by simp, ?_⟩, by omega⟩
      rw [List.take_succ_eq_append_getElem hlt, List.any_append, ha]
      simp [hb]
  · have hli : ¬ (i : Int) < (l.length : Int) := by omega
    have hg : greatS l = decide ((100 : Int) < (l.length : Int)) := by
      have : i = l.length := by omega
      rw [this, List.take_length] at ha
      simp only [greatS, ha, Bool.false_or]
      congr 1
      simp
      omega
    simp -implicitDefEqProofs [h0, h3, hlt, hli, hg]

def msgOk (m : Msg) : Prop := m.chaddr.length ≤ maxLen ∧ m.opts.length ≤ maxLen
def greatM (m : Msg) : Bool := decide (100 < m.chaddr.length) || greatS m.opts

theorem great04 (m : Msg) (hl : m.opts.length ≤ 9223372036854775807) : Holds Try.prog 6 [.d m.d] (.d (.bool (greatM m))) (fun _ => false) := by
  refine Holds.by (by kernel_rfl) Try.func6 (by kernel_rfl) rfl [] (by simp) (by kernel_rfl) (by kernel_rfl) rfl ?_
  conv in ccs _ => cbv
  by_cases h1 : 100 < m.chaddr.length
  · have h2 : (100 : Int) < (m.chaddr.length : Int) := by omega
    simp -implicitDefEqProofs [h1, h2, greatM]
  · have h2 : ¬ (100 : Int) < (m.chaddr.length : Int) := by omega
    simp -implicitDefEqProofs [h1, h2, greatM]
    refine o_call rfl rfl (great03 m.opts hl) rfl ?_
    simp -implicitDefEqProofs [h1]

theorem knows : Holds Try.prog 7 [] (.d (.bool true)) (fun _ => false) := by
  refine Holds.by (by kernel_rfl) Try.func7 (by kernel_rfl) rfl [] (by simp) (by kernel_rfl) (by kernel_rfl) rfl ?_
  conv in ccs _ => cbv
  simp -implicitDefEqProofs []
  refine o_call rfl rfl (destOf ⟨0, 0, 0, 0, 0, 0, 0, 0, 0, 0, 0, [], []⟩ 2 167772167) rfl ?_
  simp -implicitDefEqProofs [destS]
  refine o_call rfl rfl (destOf ⟨0, 0, 0, 0, 0, 0, 32768, 0, 0, 0, 0, [], []⟩ 2 167772167) rfl ?_
  simp -implicitDefEqProofs [destS]

theorem lawOf (m : Msg) (kind yi : Int) (hl : m.opts.length ≤ 9223372036854775807) : Holds Try.prog 3 [.d m.d, .d (.int .i64 kind), .d (.int .i64 yi)] (.d (.bool true)) (fun _ => false) := by
  refine Holds.by (by kernel_rfl) Try.func3 (by kernel_rfl) rfl [] (by simp) (by kernel_rfl) (by kernel_rfl) rfl ?_
  conv in ccs _ => cbv
  simp -implicitDefEqProofs []
  refine o_call rfl rfl (great04 m hl) rfl ?_
  by_cases hg : greatM m = true
  · simp -implicitDefEqProofs [hg]
    refine o_call rfl rfl knows rfl ?_
    simp -implicitDefEqProofs []
  · simp -implicitDefEqProofs [hg]
    refine o_call rfl rfl (destOf m kind yi) rfl ?_
    obtain ⟨a, p, r, hd⟩ : ∃ a p r, destS m kind yi = destD a p r := by
      unfold destS
      (repeat' split) <;> exact ⟨_, _, _, rfl⟩
    simp -implicitDefEqProofs [hd]
    refine o_call rfl rfl (lawAs m) rfl ?_
    simp -implicitDefEqProofs []
    refine o_call rfl rfl (refOf m kind yi) rfl ?_
    simp -implicitDefEqProofs [hd]
    refine o_call rfl rfl knows rfl ?_
    simp -implicitDefEqProofs []

theorem destS_d (m : Msg) (kind yi : Int) : ∃ a p r, destS m kind yi = destD a p r := by
  unfold destS
  (repeat' split) <;> exact ⟨_, _, _, rfl⟩

theorem lawRelay (m : Msg) (kind yi other : Int) (hl : m.opts.length ≤ 9223372036854775807) : Holds Try.prog 4 [.d m.d, .d (.int .i64 kind), .d (.int .i64 yi), .d (.int .i64 other)] (.d (.bool true)) (fun _ => false) := by
  refine Holds.by (by kernel_rfl) Try.func4 (by kernel_rfl) rfl [] (by simp) (by kernel_rfl) (by kernel_rfl) rfl ?_
  conv in ccs _ => cbv
  simp -implicitDefEqProofs []
  refine o_call rfl rfl (great04 m hl) rfl ?_
  by_cases hg : greatM m = true
  · simp -implicitDefEqProofs [hg]
    refine o_call rfl rfl knows rfl ?_
    simp -implicitDefEqProofs []
  · by_cases h0 : m.gi = 0
    · simp -implicitDefEqProofs [hg, h0]
      refine o_call rfl rfl knows rfl ?_
      simp -implicitDefEqProofs []
    · simp -implicitDefEqProofs [hg, h0]
      refine o_call rfl rfl (destOf m kind yi) rfl ?_
      simp -implicitDefEqProofs [destS, h0]
      refine o_call rfl rfl (destOf ⟨0, 0, 0, 0, 0, 0, 0, 0, 0, 0, m.gi, [], []⟩ other kind) rfl ?_
      simp -implicitDefEqProofs [destS, h0]
      refine o_call rfl rfl knows rfl ?_
      simp -implicitDefEqProofs []

theorem flags3 (n : Int) : (n < 32768 ∧ ¬ 32768 ≤ n ∧ ¬ 65535 < n ∧ n ≤ 65535) ∨ (¬ n < 32768 ∧ 32768 ≤ n ∧ ¬ 65535 < n ∧ n ≤ 65535) ∨ (¬ n < 32768 ∧ 32768 ≤ n ∧ 65535 < n ∧ ¬ n ≤ 65535) := by omega

theorem lawRaw (m : Msg) (kind yi : Int) (hl : m.opts.length ≤ 9223372036854775807) : Holds Try.prog 5 [.d m.d, .d (.int .i64 kind), .d (.int .i64 yi)] (.d (.bool true)) (fun _ => false) := by
  refine Holds.by (by kernel_rfl) Try.func5 (by kernel_rfl) rfl [] (by simp) (by kernel_rfl) (by kernel_rfl) rfl ?_
  conv in ccs _ => cbv
  simp -implicitDefEqProofs []
  refine o_call rfl rfl (great04 m hl) rfl ?_
  by_cases hg : greatM m = true
  · simp -implicitDefEqProofs [hg]
    refine o_call rfl rfl knows rfl ?_
    simp -implicitDefEqProofs []
  · simp -implicitDefEqProofs [hg]
    refine o_call rfl rfl (destOf m kind yi) rfl ?_
    by_cases h1 : m.gi = 0 <;> by_cases h2 : kind = 6 <;> by_cases h3 : m.ci = 0 <;> rcases flags3 m.flags with ⟨h4, h5, h6, h7⟩ | ⟨h4, h5, h6, h7⟩ | ⟨h4, h5, h6, h7⟩ <;>
      (simp -implicitDefEqProofs [h1, h2, h3, h4, h5, h6, h7, destS]
       refine o_call rfl rfl knows rfl ?_
       simp -implicitDefEqProofs [])
end Go.Proofs.Ytkiccmpebcjhlaa
