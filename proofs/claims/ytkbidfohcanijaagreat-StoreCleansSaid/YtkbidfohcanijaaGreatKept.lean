/- Disks to which leases were added (chapter 10's Kept), and the examples. -/
import Derived.Test.YtkbidfohcanijaaGreatJrnR
namespace Go.Proofs.YtkbidfohcanijaaGreat
open BoEng Go
set_option maxRecDepth 100000
set_option linter.unusedSimpArgs false
set_option linter.unusedVariables false

/-- A lease more on a disk, if it may be. -/
def kdS (d : Dk) (l : LeaseR) : Dk := if rightL l = true then (doS (addJ d l).1 (addJ d l).1.length d).1 else d
def kdL (ls : List LeaseR) : Dk := ls.foldl kdS dk0
def keptL (ls : List LeaseR) : List LeaseR := ls.filter rightL
theorem kdL_snoc (ls : List LeaseR) (l : LeaseR) : kdL (ls ++ [l]) = kdS (kdL ls) l := by simp [kdL]
theorem keptL_snoc (ls : List LeaseR) (l : LeaseR) : keptL (ls ++ [l]) = keptL ls ++ (if rightL l = true then [l] else []) := by
  unfold keptL
  rw [List.filter_append]
  congr 1
  cases h : rightL l <;> simp [h]
theorem keptL_len (ls : List LeaseR) : (keptL ls).length ≤ ls.length := List.length_filter_le _ _
theorem kd_step {d : Dk} {xs : List LeaseR} (h : Sd d xs) (hn : Nms d) (hx : xs.length ≤ 60) {l : LeaseR} (hl : rightL l = true) :
    (doS (addJ d l).1 (addJ d l).1.length d).2 = (addJ d l).1.length ∧ Sd (doS (addJ d l).1 (addJ d l).1.length d).1 (xs ++ [l]) ∧ Nms (doS (addJ d l).1 (addJ d l).1.length d).1 := by
  have r := add_run h hl (addJ d l).1.length
  have hf := nms_few h.c.r hn
  have hb := h.few.1
  have hr := r.room (by omega) (by omega)
  rw [Nat.min_self] at hr
  exact ⟨hr, r.all hr, r.nms hn⟩
theorem kd_sd : ∀ ls : List LeaseR, ls.length ≤ 60 → Sd (kdL ls) (keptL ls) ∧ Nms (kdL ls) := by
  intro ls
  induction ls using snoc_ind with
  | h0 => exact fun _ => ⟨sd_nil, nms_nil⟩
  | hs ls l ih =>
    intro h
    simp only [List.length_append, List.length_cons, List.length_nil] at h
    obtain ⟨h1, h2⟩ := ih (by omega)
    have hk := keptL_len ls
    rw [kdL_snoc, keptL_snoc]
    unfold kdS
    cases hl : rightL l with
    | false => simp only [Bool.false_eq_true, if_false, List.append_nil]; exact ⟨h1, h2⟩
    | true =>
      simp only [if_true]
      exact (kd_step h1 h2 (by omega) hl).2
theorem add_few (d : Dk) (l : LeaseR) : (addJ d l).1.length ≤ 3 ∧ (∀ c ∈ (addJ d l).1, ChOk c) := by
  unfold addJ
  split
  · exact ⟨by simp, by simp⟩
  rename_i hl
  split
  · exact ⟨by simp, by simp⟩
  split
  · exact ⟨by simp, by simp⟩
  have hl : rightL l = true := by simpa using hl
  have := frame_few hl
  dsimp only
  refine ⟨by split <;> simp, fun c hc => ?_⟩
  have : c = ⟨1, nJ, [], frameB (recB l)⟩ ∨ c = ⟨2, nJ, [], []⟩ ∨ c = ⟨5, [], [], []⟩ := by
    split at hc
    · simp at hc
      rcases hc with h | h | h
      · exact .inl h
      · exact .inr (.inl h)
      · exact .inr (.inr h)
    · simp at hc
      rcases hc with h | h
      · exact .inl h
      · exact .inr (.inl h)
  rcases this with rfl | rfl | rfl
  · exact ⟨by simp, by simp, by dsimp only; omega⟩
  · exact ⟨by simp, by simp, by simp⟩
  · exact ⟨by simp, by simp, by simp⟩
theorem add_some {d : Dk} {xs : List LeaseR} (h : Sd d xs) {l : LeaseR} (hl : rightL l = true) : (addJ d l).2 = 0 ∧ 2 ≤ (addJ d l).1.length := by
  rw [add_eq h hl]
  exact ⟨rfl, by simp⟩

def knA : LeaseR := ⟨1, 1, 258, [105, 48, 49]⟩
def knF : List UInt8 := frameB (recB knA)
def knC1 : List ChR := [⟨1, nJ, [], knF⟩, ⟨2, nJ, [], []⟩, ⟨5, [], [], []⟩]
def knC2 : List ChR := [⟨1, nJ, [], knF⟩, ⟨2, nJ, [], []⟩]
def knD1 : Dk := ⟨[⟨knF, knF.length⟩], [⟨nJ, 0⟩], [⟨nJ, 0⟩]⟩
def knD2 : Dk := ⟨[⟨knF ++ knF, (knF ++ knF).length⟩], [⟨nJ, 0⟩], [⟨nJ, 0⟩]⟩
theorem kn10_1 : addJ dk0 knA = (knC1, 0) := by kernel_rfl
theorem kn10_2 : doS knC1 9 dk0 = (knD1, 3) := by kernel_rfl
theorem kn10_3 : addJ knD1 knA = (knC2, 0) := by kernel_rfl
theorem kn10_4 : doS knC2 9 knD1 = (knD2, 2) := by kernel_rfl
theorem kn10_5 : readJ (getS knD2 nJ).1 = ([knA, knA], 42, 0) := by kernel_rfl
theorem knR0 : goodK dk0 = dk0 := by kernel_rfl
theorem knR1 : goodK knD1 = knD1 := by kernel_rfl
theorem knR2 : rightK knD1 = true := by kernel_rfl
theorem knR3 : rightK knD2 = true := by kernel_rfl
theorem knFl : knF.length = 21 := by kernel_rfl
end Go.Proofs.YtkbidfohcanijaaGreat
