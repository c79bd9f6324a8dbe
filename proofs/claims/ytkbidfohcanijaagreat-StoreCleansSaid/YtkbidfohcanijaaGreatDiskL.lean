/- What the laws of chapter 8 are made of: the program's disk as the document's; sizes; acts; the examples. -/
import Derived.Test.YtkbidfohcanijaaGreatDiskU
namespace Go.Proofs.YtkbidfohcanijaaGreat
open BoEng Go
set_option maxRecDepth 100000
attribute [-simp] List.map_take List.map_drop List.length_flatMap
set_option linter.unusedSimpArgs false
set_option linter.unusedVariables false

theorem all_bad {α : Type} {p : α → Bool} {l : List α} {i : Nat} (h : i < l.length) (hp : p l[i] = false) : l.all p = false := by
  rw [List.all_eq_false]
  exact ⟨_, List.getElem_mem h, by simp [hp]⟩
theorem all_end {α : Type} {p : α → Bool} {l : List α} {i : Nat} (h : ¬ i < l.length) (ha : (l.take i).all p = true) : l.all p = true := by
  rwa [List.take_of_length_le (by omega)] at ha

def asI (k : Dk) (i j q : Nat) (S : PS) : Prop :=
  S.t 1 = .cptr (cells k.d) ∧ S.t 2 = .ptr (FO + 2) 1 0 ∧ S.t 3 = .ptr (FO + 3) 1 0 ∧ S.fo = FO ∧ S.gen (FO + 2) = 1 ∧ S.box (FO + 2) = [.d (.slice []), .d (.slice []), .d (.slice [])] ∧
    S.gen (FO + 3) = 1 ∧ S.box (FO + 3) = [.d (.slice ((k.files.take i).map FileD.d)), .d (.slice ((k.now.take j).map Ent.d)), .d (.slice ((k.kept.take q).map Ent.d))] ∧ S.own (.b (FO + 3) 0) = true ∧ S.own (.b (FO + 3) 1) = true ∧ S.own (.b (FO + 3) 2) = true
def as1 (k : Dk) (i : Nat) (S : PS) : Prop := i ≤ k.files.length ∧ S.t 4 = .d (.int .i64 i) ∧ asI k i 0 0 S
def as2 (k : Dk) (i : Nat) (S : PS) : Prop := i ≤ k.now.length ∧ S.t 5 = .d (.int .i64 i) ∧ asI k k.files.length i 0 S
def as3 (k : Dk) (i : Nat) (S : PS) : Prop := i ≤ k.kept.length ∧ S.t 6 = .d (.int .i64 i) ∧ asI k k.files.length k.now.length i S
theorem lawAs (k : Dk) (hk : sizedK k) : Holds Tryz.prog 22 [.d k.d] (.d k.d) (fun _ => false) := by
  refine Holds.by (by kernel_rfl) Tryz.func22 (by kernel_rfl) rfl [20001, 15, 40, 65] (by simp) (by kernel_rfl) (by kernel_rfl) rfl ?_
  conv in ccs _ => cbv
  obtain ⟨⟨hf, _⟩, ⟨hn, _⟩, ⟨hp, _⟩⟩ := hk
  simp (config := sc) (disch := first | exact dd | fail) [std]
  refine lp (as1 k) (fun i => k.files.length - i) 0 ⟨by omega, by simp, by simp, by simp, by simp, by simp, by simp, by simp, by simp, by simp, by simp, by simp, by simp⟩ ?_
  rintro i S ⟨hi, e4, e1, e2, e3, efo, g2, b2, g3, b3, o0, o1, o2⟩
  by_cases hlt : i < k.files.length
  · have k6 : (i : Int) < k.files.length := by omega
    have ht : (k.files.take (i + 1)).map FileD.d = (k.files.take i).map FileD.d ++ [FileD.d k.files[i]] := by
      rw [List.take_succ_eq_append_getElem hlt, List.map_append]
      rfl
    simp (config := sc) (disch := first | exact dd | fail) [std, e1, e2, e3, e4, efo, g2, b2, g3, b3, o0, o1, o2, k6]
    exact nxt_of (i + 1) ⟨by omega, by simp, by simp (config := sc) (disch := first | exact dd | fail) [std, e1], by simp (config := sc) (disch := first | exact dd | fail) [std, e2], by simp (config := sc) (disch := first | exact dd | fail) [std, e3], by simp (config := sc) (disch := first | exact dd | fail) [std, efo], by simp (config := sc) (disch := first | exact dd | fail) [std, g2, efo], by simp (config := sc) (disch := first | exact dd | fail) [std, b2, efo], by simp (config := sc) (disch := first | exact dd | fail) [std, g3, efo], by rw [ht]; simp (config := sc) (disch := first | exact dd | fail) [std, b3, efo, FileD.d], by simp (config := sc) (disch := first | exact dd | fail) [std, o0, efo], by simp (config := sc) (disch := first | exact dd | fail) [std, o1, efo], by simp (config := sc) (disch := first | exact dd | fail) [std, o2, efo]⟩ (by omega)
  have k6 : ¬ (i : Int) < k.files.length := by omega
  have hil : i = k.files.length := by omega
  subst hil
  simp (config := sc) (disch := first | exact dd | fail) [std, e1, e2, e3, e4, efo, g2, b2, g3, b3, o0, o1, o2, k6]
  refine lp (as2 k) (fun i => k.now.length - i) 0 ⟨by omega, by simp, by simp (config := sc) (disch := first | exact dd | fail) [std, e1], by simp (config := sc) (disch := first | exact dd | fail) [std, e2], by simp (config := sc) (disch := first | exact dd | fail) [std, e3], by simp (config := sc) (disch := first | exact dd | fail) [std, efo], by simp (config := sc) (disch := first | exact dd | fail) [std, g2, efo], by simp (config := sc) (disch := first | exact dd | fail) [std, b2, efo], by simp (config := sc) (disch := first | exact dd | fail) [std, g3, efo], by simp (config := sc) (disch := first | exact dd | fail) [std, b3, efo], by simp (config := sc) (disch := first | exact dd | fail) [std, o0, efo], by simp (config := sc) (disch := first | exact dd | fail) [std, o1, efo], by simp (config := sc) (disch := first | exact dd | fail) [std, o2, efo]⟩ ?_
  clear e1 e2 e3 e4 efo g2 b2 g3 b3 o0 o1 o2 S hi hlt k6
  rintro i S ⟨hi, e4, e1, e2, e3, efo, g2, b2, g3, b3, o0, o1, o2⟩
  by_cases hlt : i < k.now.length
  · have k6 : (i : Int) < k.now.length := by omega
    have ht : (k.now.take (i + 1)).map Ent.d = (k.now.take i).map Ent.d ++ [Ent.d k.now[i]] := by
      rw [List.take_succ_eq_append_getElem hlt, List.map_append]
      rfl
    simp (config := sc) (disch := first | exact dd | fail) [std, e1, e2, e3, e4, efo, g2, b2, g3, b3, o0, o1, o2, k6]
    exact nxt_of (i + 1) ⟨by omega, by simp, by simp (config := sc) (disch := first | exact dd | fail) [std, e1], by simp (config := sc) (disch := first | exact dd | fail) [std, e2], by simp (config := sc) (disch := first | exact dd | fail) [std, e3], by simp (config := sc) (disch := first | exact dd | fail) [std, efo], by simp (config := sc) (disch := first | exact dd | fail) [std, g2, efo], by simp (config := sc) (disch := first | exact dd | fail) [std, b2, efo], by simp (config := sc) (disch := first | exact dd | fail) [std, g3, efo], by rw [ht]; simp (config := sc) (disch := first | exact dd | fail) [std, b3, efo, Ent.d], by simp (config := sc) (disch := first | exact dd | fail) [std, o0, efo], by simp (config := sc) (disch := first | exact dd | fail) [std, o1, efo], by simp (config := sc) (disch := first | exact dd | fail) [std, o2, efo]⟩ (by omega)
  have k6 : ¬ (i : Int) < k.now.length := by omega
  have hil : i = k.now.length := by omega
  subst hil
  simp (config := sc) (disch := first | exact dd | fail) [std, e1, e2, e3, e4, efo, g2, b2, g3, b3, o0, o1, o2, k6]
  refine lp (as3 k) (fun i => k.kept.length - i) 0 ⟨by omega, by simp, by simp (config := sc) (disch := first | exact dd | fail) [std, e1], by simp (config := sc) (disch := first | exact dd | fail) [std, e2], by simp (config := sc) (disch := first | exact dd | fail) [std, e3], by simp (config := sc) (disch := first | exact dd | fail) [std, efo], by simp (config := sc) (disch := first | exact dd | fail) [std, g2, efo], by simp (config := sc) (disch := first | exact dd | fail) [std, b2, efo], by simp (config := sc) (disch := first | exact dd | fail) [std, g3, efo], by simp (config := sc) (disch := first | exact dd | fail) [std, b3, efo], by simp (config := sc) (disch := first | exact dd | fail) [std, o0, efo], by simp (config := sc) (disch := first | exact dd | fail) [std, o1, efo], by simp (config := sc) (disch := first | exact dd | fail) [std, o2, efo]⟩ ?_
  clear e1 e2 e3 e4 efo g2 b2 g3 b3 o0 o1 o2 S hi hlt k6
  rintro i S ⟨hi, e4, e1, e2, e3, efo, g2, b2, g3, b3, o0, o1, o2⟩
  by_cases hlt : i < k.kept.length
  · have k6 : (i : Int) < k.kept.length := by omega
    have ht : (k.kept.take (i + 1)).map Ent.d = (k.kept.take i).map Ent.d ++ [Ent.d k.kept[i]] := by
      rw [List.take_succ_eq_append_getElem hlt, List.map_append]
      rfl
    simp (config := sc) (disch := first | exact dd | fail) [std, e1, e2, e3, e4, efo, g2, b2, g3, b3, o0, o1, o2, k6]
    exact nxt_of (i + 1) ⟨by omega, by simp, by simp (config := sc) (disch := first | exact dd | fail) [std, e1], by simp (config := sc) (disch := first | exact dd | fail) [std, e2], by simp (config := sc) (disch := first | exact dd | fail) [std, e3], by simp (config := sc) (disch := first | exact dd | fail) [std, efo], by simp (config := sc) (disch := first | exact dd | fail) [std, g2, efo], by simp (config := sc) (disch := first | exact dd | fail) [std, b2, efo], by simp (config := sc) (disch := first | exact dd | fail) [std, g3, efo], by rw [ht]; simp (config := sc) (disch := first | exact dd | fail) [std, b3, efo, Ent.d], by simp (config := sc) (disch := first | exact dd | fail) [std, o0, efo], by simp (config := sc) (disch := first | exact dd | fail) [std, o1, efo], by simp (config := sc) (disch := first | exact dd | fail) [std, o2, efo]⟩ (by omega)
  have k6 : ¬ (i : Int) < k.kept.length := by omega
  have hil : i = k.kept.length := by omega
  subst hil
  simp (config := sc) (disch := first | exact dd | fail) [std, e1, e2, e3, e4, efo, g2, b2, g3, b3, o0, o1, o2, k6, Dk.d]

def smallF (f : FileD) : Bool := decide (f.data.length ≤ 30000)
def smallK (k : Dk) : Bool := k.files.all smallF && decide (k.files.length ≤ 50) && decide (k.now.length ≤ 50) && decide (k.kept.length ≤ 50)
def DkOk (k : Dk) : Prop := k.files.length ≤ 9223372036854775807 ∧ k.now.length ≤ 9223372036854775807 ∧ k.kept.length ≤ 9223372036854775807 ∧ (∀ e ∈ k.now, e.name.length ≤ 9223372036854775807) ∧ ∀ e ∈ k.kept, e.name.length ≤ 9223372036854775807
theorem small_ok {k : Dk} (h : smallK k = true) (hk : DkOk k) : okK k := by
  simp only [smallK, Bool.and_eq_true, decide_eq_true_eq, List.all_eq_true, smallF] at h
  obtain ⟨⟨⟨h1, h2⟩, h3⟩, h4⟩ := h
  obtain ⟨_, _, _, k4, k5⟩ := hk
  refine ⟨⟨⟨by omega, fun f hf => ?_⟩, ⟨by omega, k4⟩, ⟨by omega, k5⟩⟩, by omega⟩
  have := h1 f hf
  omega
def gr8I (k : Dk) (i : Nat) (S : PS) : Prop :=
  i ≤ k.files.length ∧ (k.files.take i).all smallF = true ∧ S.t 1 = .cptr (cells k.d) ∧ S.t 3 = .d (.int .i64 i)
theorem great08 (k : Dk) (hk : DkOk k) : Holds Tryz.prog 11 [.d k.d] (.d (.bool (!smallK k))) (fun _ => false) := by
  refine Holds.by (by kernel_rfl) Tryz.func11 (by kernel_rfl) rfl [20001] (by simp) (by kernel_rfl) (by kernel_rfl) rfl ?_
  conv in ccs _ => cbv
  obtain ⟨k1, k2, k3, _⟩ := hk
  simp (config := sc) (disch := first | exact dd | fail) [std]
  refine lp (gr8I k) (fun i => k.files.length - i) 0 ⟨Nat.zero_le _, by simp, by simp, by simp⟩ ?_
  rintro i S ⟨hi, ha, e1, e3⟩
  by_cases hlt : i < k.files.length
  · have k6 : (i : Int) < k.files.length := by omega
    by_cases hb : k.files[i].data.length ≤ 30000
    · have hb' : ¬ (30000 : Int) < k.files[i].data.length := by omega
      simp (config := sc) (disch := first | exact dd | fail) [std, e1, e3, k6, hb']
      exact nxt_of (i + 1) ⟨by omega, all_step hlt ha (decide_eq_true hb), by simp (config := sc) (disch := first | exact dd | fail) [std, e1], by simp⟩ (by omega)
    · have hb' : (30000 : Int) < k.files[i].data.length := by omega
      have hz : (!smallK k) = true := by
        have := all_bad (p := smallF) hlt (decide_eq_false hb)
        simp [smallK, this]
      simp (config := sc) (disch := first | exact dd | fail) [std, e1, e3, k6, hb', hz]
  · have k6 : ¬ (i : Int) < k.files.length := by omega
    have hal := all_end hlt ha
    by_cases c1 : (50 : Int) < k.files.length
    · have hz : smallK k = false := by
        rw [Bool.eq_false_iff]
        simp only [smallK, ne_eq, Bool.and_eq_true, decide_eq_true_eq]
        omega
      simp (config := sc) (disch := first | exact dd | fail) [std, e1, e3, k6, c1, hz]
    · by_cases c2 : (50 : Int) < k.now.length
      · have hz : smallK k = false := by
          rw [Bool.eq_false_iff]
          simp only [smallK, ne_eq, Bool.and_eq_true, decide_eq_true_eq]
          omega
        simp (config := sc) (disch := first | exact dd | fail) [std, e1, e3, k6, c1, c2, hz]
      · by_cases c3 : (50 : Int) < k.kept.length
        · have hz : smallK k = false := by
            rw [Bool.eq_false_iff]
            simp only [smallK, ne_eq, Bool.and_eq_true, decide_eq_true_eq]
            omega
          simp (config := sc) (disch := first | exact dd | fail) [std, e1, e3, k6, c1, c2, c3, hz]
        · have hz : smallK k = true := by
            simp only [smallK, Bool.and_eq_true, decide_eq_true_eq]
            exact ⟨⟨⟨hal, by omega⟩, by omega⟩, by omega⟩
          simp (config := sc) (disch := first | exact dd | fail) [std, e1, e3, k6, c1, c2, c3, hz]

def rsnI (l : List Ent) (i : Nat) (S : PS) : Prop := i ≤ l.length ∧ S.t 0 = .d (.slice (l.map Ent.d)) ∧ S.t 1 = .d (.slice (l.map Ent.d)) ∧ S.t 5 = .d (.int .i64 i)
theorem ref08SameNames (l : List Ent) (hl : l.length ≤ 1000000) : Holds Tryz.prog 45 [.d (.slice (l.map Ent.d)), .d (.slice (l.map Ent.d))] (.d (.bool true)) (fun _ => false) := by
  refine Holds.by (by kernel_rfl) Tryz.func45 (by kernel_rfl) rfl [] (by simp) (by kernel_rfl) (by kernel_rfl) rfl ?_
  conv in ccs _ => cbv
  simp (config := sc) (disch := first | exact dd | fail) [std]
  refine lp (rsnI l) (fun i => l.length - i) 0 ⟨by omega, by simp, by simp, by simp⟩ ?_
  rintro i S ⟨hi, e0, e1, e5⟩
  by_cases hlt : i < l.length
  · have k6 : (i : Int) < l.length := by omega
    simp (config := sc) (disch := first | exact dd | fail) [std, e0, e1, e5, k6]
    exact nxt_of (i + 1) ⟨by omega, by simp (config := sc) (disch := first | exact dd | fail) [std, e0], by simp (config := sc) (disch := first | exact dd | fail) [std, e1], by simp⟩ (by omega)
  · have k6 : ¬ (i : Int) < l.length := by omega
    simp (config := sc) (disch := first | exact dd | fail) [std, e0, e1, e5, k6]
def rsmI (k : Dk) (i : Nat) (S : PS) : Prop := i ≤ k.files.length ∧ S.t 2 = .cptr (cells k.d) ∧ S.t 3 = .cptr (cells k.d) ∧ S.t 5 = .d (.int .i64 i)
theorem ref08Same (k : Dk) (hk : okK k) : Holds Tryz.prog 24 [.d k.d, .d k.d] (.d (.bool true)) (fun _ => false) := by
  refine Holds.by (by kernel_rfl) Tryz.func24 (by kernel_rfl) rfl [20002, 20003] (by simp) (by kernel_rfl) (by kernel_rfl) rfl ?_
  conv in ccs _ => cbv
  obtain ⟨⟨⟨h1, _⟩, ⟨h2, _⟩, ⟨h3, _⟩⟩, _⟩ := hk
  have q1 := ref08SameNames k.now (by omega)
  have q2 := ref08SameNames k.kept (by omega)
  simp (config := sc) (disch := first | exact dd | fail) [std]
  refine o_call rfl rfl q1 rfl rfl ?_
  simp (config := sc) (disch := first | exact dd | fail) [std]
  refine o_call rfl rfl q2 rfl rfl ?_
  simp (config := sc) (disch := first | exact dd | fail) [std]
  refine lp (rsmI k) (fun i => k.files.length - i) 0 ⟨by omega, by simp, by simp, by simp⟩ ?_
  rintro i S ⟨hi, e2, e3, e5⟩
  by_cases hlt : i < k.files.length
  · have k6 : (i : Int) < k.files.length := by omega
    simp (config := sc) (disch := first | exact dd | fail) [std, e2, e3, e5, k6]
    exact nxt_of (i + 1) ⟨by omega, by simp (config := sc) (disch := first | exact dd | fail) [std, e2], by simp (config := sc) (disch := first | exact dd | fail) [std, e3], by simp⟩ (by omega)
  · have k6 : ¬ (i : Int) < k.files.length := by omega
    simp (config := sc) (disch := first | exact dd | fail) [std, e2, e3, e5, k6]

end Go.Proofs.YtkbidfohcanijaaGreat
