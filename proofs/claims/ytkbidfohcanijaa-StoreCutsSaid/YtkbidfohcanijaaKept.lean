/- Disks to which leases were added (chapter 10's Kept), and the examples. -/
import Derived.Test.YtkbidfohcanijaaJrnR
namespace Go.Proofs.Ytkbidfohcanijaa
open BoEng Go
set_option maxRecDepth 100000
attribute [-simp] List.map_take List.map_drop List.length_flatMap
set_option linter.unusedSimpArgs false
set_option linter.unusedVariables false

/-- A lease more on a disk, if it may be. -/
def kdS (d : Dk) (l : LeaseR) : Dk := if rightL l = true then (doS (addJ d l).1 (addJ d l).1.length d).1 else d
def kdL (ls : List LeaseR) : Dk := ls.foldl kdS dk0
def keptL (ls : List LeaseR) : List LeaseR := ls.filter rightL
theorem kdL_snoc (ls : List LeaseR) (l : LeaseR) : kdL (ls ++ [l]) = kdS (kdL ls) l := by simp [kdL]
theorem keptL_snoc (ls : List LeaseR) (l : LeaseR) : keptL (ls ++ [l]) = keptL ls ++ (if rightL l = true then [l] else []) := by
  unfold keptL
  rw [List.filter_append]
  congr 1
  cases h : rightL l <;> simp [h]
theorem keptL_len (ls : List LeaseR) : (keptL ls).length ≤ ls.length := List.length_filter_le _ _
theorem kd_step {d : Dk} {xs : List LeaseR} (h : Sd d xs) (hn : Nms d) (hx : xs.length ≤ 60) {l : LeaseR} (hl : rightL l = true) :
    (doS (addJ d l).1 (addJ d l).1.length d).2 = (addJ d l).1.length ∧ Sd (doS (addJ d l).1 (addJ d l).1.length d).1 (xs ++ [l]) ∧ Nms (doS (addJ d l).1 (addJ d l).1.length d).1 := by
  have r := add_run h hl (addJ d l).1.length
  have hf := nms_few h.c.r hn
  have hb := h.few.1
  have hr := r.room (by omega) (by omega)
  rw [Nat.min_self] at hr
  exact ⟨hr, r.all hr, r.nms hn⟩
theorem kd_sd : ∀ ls : List LeaseR, ls.length ≤ 60 → Sd (kdL ls) (keptL ls) ∧ Nms (kdL ls) := by
  intro ls
  induction ls using snoc_ind with
  | h0 => exact fun _ => ⟨sd_nil, nms_nil⟩
  | hs ls l ih =>
    intro h
    simp only [List.length_append, List.length_cons, List.length_nil] at h
    obtain ⟨h1, h2⟩ := ih (by omega)
    have hk := keptL_len ls
    rw [kdL_snoc, keptL_snoc]
    unfold kdS
    cases hl : rightL l with
    | false => simp only [Bool.false_eq_true, if_false, List.append_nil]; exact ⟨h1, h2⟩
    | true =>
      simp only [if_true]
      exact (kd_step h1 h2 (by omega) hl).2
theorem add_few (d : Dk) (l : LeaseR) : (addJ d l).1.length ≤ 3 ∧ (∀ c ∈ (addJ d l).1, ChOk c) := by
  unfold addJ
  split
  · exact ⟨by simp, by simp⟩
  rename_i hl
  split
  · exact ⟨by simp, by simp⟩
  split
  · exact ⟨by simp, by simp⟩
  have hl : rightL l = true := by simpa using hl
  have := frame_few hl
  dsimp only
  refine ⟨by split <;> simp, fun c hc => ?_⟩
  have : c = ⟨1, nJ, [], frameB (recB l)⟩ ∨ c = ⟨2, nJ, [], []⟩ ∨ c = ⟨5, [], [], []⟩ := by
    split at hc
    · simp at hc
      rcases hc with h | h | h
      · exact .inl h
      · exact .inr (.inl h)
      · exact .inr (.inr h)
    · simp at hc
      rcases hc with h | h
      · exact .inl h
      · exact .inr (.inl h)
  rcases this with rfl | rfl | rfl
  · exact ⟨by simp, by simp, by dsimp only; omega⟩
  · exact ⟨by simp, by simp, by simp⟩
  · exact ⟨by simp, by simp, by simp⟩
theorem add_some {d : Dk} {xs : List LeaseR} (h : Sd d xs) {l : LeaseR} (hl : rightL l = true) : (addJ d l).2 = 0 ∧ 2 ≤ (addJ d l).1.length := by
  rw [add_eq h hl]
  exact ⟨rfl, by simp⟩

def kpI (ls : List LeaseR) (i : Nat) (S : PS) : Prop :=
  i ≤ ls.length ∧ i ≤ 10 ∧ S.t 0 = .d (.slice (ls.map LeaseR.d)) ∧ S.t 2 = .ptr (FO + 2) 1 0 ∧ S.t 5 = .ptr (FO + 5) 1 0 ∧ S.t 6 = .d (.slice ((keptL (ls.take i)).map LeaseR.d)) ∧ S.own (.t 6 0) = true ∧ S.t 7 = .d (.int .i64 i) ∧ S.fo = FO ∧
  S.gen (FO + 2) = 1 ∧ S.box (FO + 2) = [.d (.slice []), .d (.slice []), .d (.slice [])] ∧ S.gen (FO + 5) = 1 ∧ S.box (FO + 5) = (cells (kdL (ls.take i)).d).map .d
theorem law10Kept (ls : List LeaseR) (hls : ls.length ≤ 9223372036854775807) (hk : ∀ l ∈ ls, l.key.length ≤ 9223372036854775807) :
    Holds Try.prog 21 [.d (.slice (ls.map LeaseR.d))] (.tup [.d (kdL (ls.take 10)).d, .d (.slice ((keptL (ls.take 10)).map LeaseR.d)), .d (.bool true)]) (fun _ => false) := by
  refine Holds.by (by kernel_rfl) Try.func21 (by kernel_rfl) rfl [3048005, 3010010, 50065, 50066, 50033, 50034, 62] (by simp) (by kernel_rfl) (by kernel_rfl) rfl ?_
  conv in ccs _ => cbv
  simp (config := sc) (disch := first | exact dd | fail) [std]
  refine lp (kpI ls) (fun i => 10 - i) 0 ⟨by omega, by omega, by simp, by simp, by simp, by simp [keptL], by simp, by simp, by simp, by simp, by simp, by simp, by simp [kdL, dk0]⟩ ?_
  rintro i S ⟨hi, hi10, e0, e2, e5, e6, o6, e7, efo, g2, b2, g5, b5⟩
  by_cases hlt : i < ls.length ∧ i < 10
  · obtain ⟨hlt, h10⟩ := hlt
    have k6 : (i : Int) < ls.length := by omega
    have k10 : (i : Int) < 10 := by omega
    have hti : ls.take (i + 1) = ls.take i ++ [ls[i]] := List.take_succ_eq_append_getElem hlt
    have q1 := ref09Right ls[i] (hk _ (List.getElem_mem hlt))
    obtain ⟨hsd, hnm⟩ := kd_sd (ls.take i) (by simp; omega)
    have hkl := keptL_len (ls.take i)
    simp only [List.length_take] at hkl
    have hkd := kdL_snoc (ls.take i) ls[i]
    have hkp := keptL_snoc (ls.take i) ls[i]
    rw [← hti] at hkd hkp
    unfold kdS at hkd
    cases hr : rightL ls[i] with
    | false =>
      rw [hr] at q1 hkd hkp
      simp only [Bool.false_eq_true, if_false, List.append_nil] at hkd hkp
      simp (config := sc) (disch := first | exact dd | fail) [std, e0, e2, e5, e6, o6, e7, efo, g2, b2, g5, b5, k6, k10]
      refine o_call rfl rfl q1 rfl rfl ?_
      simp (config := sc) (disch := first | exact dd | fail) [std, e0, e2, e5, e6, o6, e7, efo, g2, b2, g5, b5, k6, k10]
      exact nxt_of (i + 1) ⟨by omega, by omega, by simp (config := sc) (disch := first | exact dd | fail) [std, e0], by simp (config := sc) (disch := first | exact dd | fail) [std, e2], by simp (config := sc) (disch := first | exact dd | fail) [std, e5], by rw [hkp]; simp (config := sc) (disch := first | exact dd | fail) [std, e6], by simp (config := sc) (disch := first | exact dd | fail) [std, o6], by simp, by simp (config := sc) (disch := first | exact dd | fail) [std, efo], by simp (config := sc) (disch := first | exact dd | fail) [std, g2, efo], by simp (config := sc) (disch := first | exact dd | fail) [std, b2, efo], by simp (config := sc) (disch := first | exact dd | fail) [std, g5, efo], by rw [hkd]; simp (config := sc) (disch := first | exact dd | fail) [std, b5, efo]⟩ (by omega)
    | true =>
      rw [hr] at q1 hkd hkp
      simp only [if_true] at hkd hkp
      have hkey := key_len (right_rng hr).2.2.2
      have q2 := journalAdd (kdL (ls.take i)) (ok_right hsd.c.r) ls[i] (by omega)
      have hst := kd_step hsd hnm (by omega) hr
      obtain ⟨a1, a2⟩ := add_some hsd hr
      obtain ⟨f1, f2⟩ := add_few (kdL (ls.take i)) ls[i]
      have q3 := journalDo (kdL (ls.take i)) (ok_right hsd.c.r) (addJ (kdL (ls.take i)) ls[i]).1 (by omega) f2 ((addJ (kdL (ls.take i)) ls[i]).1.length : Nat)
      rw [good_id hsd.c.r, Int.toNat_natCast, hst.1] at q3
      rw [a1] at q2
      rw [← hkd] at q3
      generalize (addJ (kdL (ls.take i)) ls[i]).1 = cs at *
      generalize hd2 : kdL (ls.take (i + 1)) = d2 at *
      generalize kdL (ls.take i) = d at *
      have hc0 : ¬ (cs.length : Int) = 0 := by omega
      have hc1 : ¬ cs = [] := by intro h; subst h; simp at a2
      have hkl2 : (keptL (ls.take i)).length ≤ 10 := by omega
      generalize keptL (ls.take i) = kp at *
      clear hst hsd hnm hti
      simp (config := sc) (disch := first | exact dd | fail) [std, e0, e2, e5, e6, o6, e7, efo, g2, b2, g5, b5, k6, k10]
      refine o_call rfl rfl q1 rfl rfl ?_
      simp (config := sc) (disch := first | exact dd | fail) [std, e0, e2, e5, e6, o6, e7, efo, g2, b2, g5, b5, k6, k10]
      refine o_call rfl rfl q2 rfl rfl ?_
      simp (config := sc) (disch := first | exact dd | fail) [std, e0, e2, e5, e6, o6, e7, efo, g2, b2, g5, b5, k6, k10, hc0, hc1]
      refine o_call rfl rfl q3 rfl rfl ?_
      simp (config := sc) (disch := first | exact dd | fail) [std, e0, e2, e5, e6, o6, e7, efo, g2, b2, g5, b5, k6, k10, hc0, hc1]
      exact nxt_of (i + 1) ⟨by omega, by omega, by simp (config := sc) (disch := first | exact dd | fail) [std, e0], by simp (config := sc) (disch := first | exact dd | fail) [std, e2], by simp (config := sc) (disch := first | exact dd | fail) [std, e5], by rw [hkp]; simp (config := sc) (disch := first | exact dd | fail) [std, e6, LeaseR.d], by simp (config := sc) (disch := first | exact dd | fail) [std], by simp, by simp (config := sc) (disch := first | exact dd | fail) [std, efo], by simp (config := sc) (disch := first | exact dd | fail) [std, g2, efo], by simp (config := sc) (disch := first | exact dd | fail) [std, b2, efo], by simp (config := sc) (disch := first | exact dd | fail) [std, g5, efo], by rw [hd2]; simp (config := sc) (disch := first | exact dd | fail) [std, b5, efo]⟩ (by omega)
  · have ht : ls.take i = ls.take 10 := by
      by_cases h : i < ls.length
      · have : i = 10 := by omega
        rw [this]
      · rw [List.take_of_length_le (by omega), List.take_of_length_le (by omega)]
    rw [ht] at e6 b5
    generalize kdL (ls.take 10) = d at *
    generalize keptL (ls.take 10) = kp at *
    by_cases hil : (i : Int) < ls.length
    · have h10 : ¬ (i : Int) < 10 := by omega
      simp (config := sc) (disch := first | exact dd | fail) [std, e0, e2, e5, e6, o6, e7, efo, g2, b2, g5, b5, hil, h10, Dk.d]
    · simp (config := sc) (disch := first | exact dd | fail) [std, e0, e2, e5, e6, o6, e7, efo, g2, b2, g5, b5, hil, Dk.d]

def knA : LeaseR := ⟨1, 1, 258, [105, 48, 49]⟩
def knF : List UInt8 := frameB (recB knA)
def knC1 : List ChR := [⟨1, nJ, [], knF⟩, ⟨2, nJ, [], []⟩, ⟨5, [], [], []⟩]
def knC2 : List ChR := [⟨1, nJ, [], knF⟩, ⟨2, nJ, [], []⟩]
def knD1 : Dk := ⟨[⟨knF, knF.length⟩], [⟨nJ, 0⟩], [⟨nJ, 0⟩]⟩
def knD2 : Dk := ⟨[⟨knF ++ knF, (knF ++ knF).length⟩], [⟨nJ, 0⟩], [⟨nJ, 0⟩]⟩
theorem kn10_1 : addJ dk0 knA = (knC1, 0) := by kernel_rfl
theorem kn10_2 : doS knC1 9 dk0 = (knD1, 3) := by kernel_rfl
theorem kn10_3 : addJ knD1 knA = (knC2, 0) := by kernel_rfl
theorem kn10_4 : doS knC2 9 knD1 = (knD2, 2) := by kernel_rfl
theorem kn10_5 : readJ (getS knD2 nJ).1 = ([knA, knA], 42, 0) := by kernel_rfl
theorem knR0 : goodK dk0 = dk0 := by kernel_rfl
theorem knR1 : goodK knD1 = knD1 := by kernel_rfl
theorem knR2 : rightK knD1 = true := by kernel_rfl
theorem knR3 : rightK knD2 = true := by kernel_rfl
theorem knFl : knF.length = 21 := by kernel_rfl
end Go.Proofs.Ytkbidfohcanijaa
