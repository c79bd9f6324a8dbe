/- Tables of leases: what the program and the document answer. -/
import Derived.Test.YtnkmlhlegndlhaaGreatClean
namespace Go.Proofs.YtnkmlhlegndlhaaGreat
open BoEng Go
set_option maxRecDepth 100000
attribute [-simp] List.map_take List.map_drop List.length_flatMap
set_option linter.unusedSimpArgs false
set_option linter.unusedVariables false
def nextA (t : List LeaseR) (i : Nat) : Bool := decide (i = 0) || decide ((t.getD (i - 1) default).addr < (t.getD i default).addr)
def tabAt (t : List LeaseR) (i : Nat) : Bool := rightL (t.getD i default) && nextA t i
def tableR (t : List LeaseR) : Bool := decide (t.length ≤ 64) && (List.range t.length).all (tabAt t)
def goodT (t : List LeaseR) : List LeaseR := if tableR t = true then t else []
theorem tab_all {t : List LeaseR} : tableR t = true ↔ t.length ≤ 64 ∧ ∀ i, i < t.length → tabAt t i = true := by
 unfold tableR
 rw [Bool.and_eq_true, decide_eq_true_eq, List.all_eq_true]
 simp only [List.mem_range]
theorem tabAt_get {t : List LeaseR} {i : Nat} (h : i < t.length) : tabAt t i = (rightL t[i] && (decide (i = 0) || decide ((t.getD (i - 1) default).addr < t[i].addr))) := by
 simp only [tabAt, nextA, List.getD_eq_getElem?_getD, List.getElem?_eq_getElem h, Option.getD_some]
theorem tab_iff {t : List LeaseR} : tableR t = true ↔ t.length ≤ 64 ∧ (∀ l ∈ t, rightL l = true) ∧ SrtA t := by
 rw [tab_all]
 constructor
 ·rintro ⟨h1, h2⟩
  refine ⟨h1, fun l hl => ?_, ?_⟩
  ·obtain ⟨i, hi, rfl⟩ := List.mem_iff_getElem.1 hl
   have := h2 i hi
   rw [tabAt_get hi, Bool.and_eq_true] at this
   exact this.1
  ·unfold SrtA
   rw [List.pairwise_iff_getElem]
   intro i j hi hj hij
   induction j with
   | zero => omega
   | succ j ih =>
     have h3 := h2 (j + 1) hj
     have hjl : j < t.length := by omega
     rw [tabAt_get hj] at h3
     simp only [Bool.and_eq_true, Bool.or_eq_true, decide_eq_true_eq, Nat.add_sub_cancel, List.getD_eq_getElem?_getD, List.getElem?_eq_getElem hjl, Option.getD_some] at h3
     have h4 : t[j].addr < t[j + 1].addr := by
      rcases h3.2 with h | h
      ·omega
      ·exact h
     by_cases e : i = j
     ·subst e; exact h4
     ·have := ih hjl (by omega)
      omega
 ·rintro ⟨h1, h2, h3⟩
  refine ⟨h1, fun i hi => ?_⟩
  rw [tabAt_get hi, h2 _ (List.getElem_mem hi), Bool.true_and, Bool.or_eq_true, decide_eq_true_eq, decide_eq_true_eq]
  by_cases e : i = 0
  ·exact .inl e
  ·have hj : i - 1 < t.length := by omega
   refine .inr ?_
   rw [List.getD_eq_getElem?_getD, List.getElem?_eq_getElem hj, Option.getD_some]
   exact srtA_lt h3 hi (by omega)
theorem tab_nil : tableR [] = true := by simp [tab_iff, SrtA]
theorem goodT_tab (t : List LeaseR) : tableR (goodT t) = true := by
 unfold goodT
 split
 ·assumption
 ·exact tab_nil
theorem goodT_id {t : List LeaseR} (h : tableR t = true) : goodT t = t := if_pos h
def setT (t : List LeaseR) (l : LeaseR) : List LeaseR × Int :=
 if rightL l = false then ([], 1) else if isA (goodT t) l.addr = false ∧ (goodT t).length = 64 then ([], 3) else (insL (goodT t) l, 0)
def getT (t : List LeaseR) (a : Int) : LeaseR × Bool := if isA (goodT t) a = true then ((goodT t).getD (posA (goodT t) a) default, true) else (⟨0, 0, 0, []⟩, false)
theorem setT_tab {t : List LeaseR} {l : LeaseR} (h : (setT t l).2 = 0) : tableR (setT t l).1 = true ∧ rightL l = true ∧ (setT t l).1 = insL (goodT t) l := by
 unfold setT at h ⊢
 by_cases hr : rightL l = false
 ·rw [if_pos hr] at h; simp at h
 rw [if_neg hr] at h ⊢
 have hr : rightL l = true := by simpa using hr
 by_cases hc : isA (goodT t) l.addr = false ∧ (goodT t).length = 64
 ·rw [if_pos hc] at h; simp at h
 rw [if_neg hc]
 refine ⟨?_, hr, rfl⟩
 obtain ⟨h1, h2, h3⟩ := tab_iff.1 (goodT_tab t)
 obtain ⟨h4, h5⟩ := insL_spec h3 l
 rw [tab_iff]
 refine ⟨?_, fun b hb => ?_, h4⟩
 ·show (insL (goodT t) l).length ≤ 64
  rw [insL_len]
  split
  ·exact h1
  ·rename_i hi
   have hi : isA (goodT t) l.addr = false := by simpa using hi
   have : ¬ (goodT t).length = 64 := fun e => hc ⟨hi, e⟩
   omega
 ·rcases (h5 b).1 hb with rfl | h6
  ·exact hr
  ·exact h2 b h6.1
def trI (t : List LeaseR) (i : Nat) (S : PS) : Prop :=
 i ≤ t.length ∧ (∀ j, j < i → tabAt t j = true) ∧ S.t 0 = .d (.slice (t.map LeaseR.d)) ∧ S.t 5 = .d (.slice (t.map LeaseR.d)) ∧ S.t 6 = .d (.int .i64 t.length) ∧ S.t 7 = .d (.int .i64 i)
theorem tab_no {t : List LeaseR} {i : Nat} (h : i < t.length) (hn : tabAt t i = false) : tableR t = false := by
 rw [Bool.eq_false_iff]
 intro h2
 rw [(tab_all.1 h2).2 i h] at hn
 cases hn
theorem tableRight (t : List LeaseR) (ht : t.length ≤ 1000000) (hk : ∀ l ∈ t, l.key.length ≤ 9223372036854775807) : Holds Tryz.prog 39 [.d (.slice (t.map LeaseR.d))] (.d (.bool (tableR t))) (fun _ => false) := by
 refine Holds.by (by kernel_rfl) Tryz.func39 (by kernel_rfl) rfl [50010, 50011] (by simp) (by kernel_rfl) (by kernel_rfl) rfl ?_
 conv in ccs _ => cbv
 simp (config := sc) (disch := try exact dd) [std]
 refine lp (trI t) (fun i => t.length - i) 0 ⟨by omega, by simp, by simp, by simp, by simp, by simp⟩ ?_
 rintro i S ⟨hi, ha, e0, e5, e6, e7⟩
 by_cases hlt : i < t.length
 ·have k6 : (i : Int) < t.length := by omega
  have hn : nth t (i : Int) = t[i] := nth_nat hlt
  have q := recordRight t[i] (hk _ (List.getElem_mem hlt))
  have hat := tabAt_get hlt
  have hstep : tabAt t i = true → ∀ j, j < i + 1 → tabAt t j = true := fun h j hj => by
   by_cases e : j = i
   ·subst e; exact h
   ·exact ha j (by omega)
  cases hr : rightL t[i] with
  | false =>
    rw [hr] at q hat
    have hz := tab_no hlt (by rw [hat]; rfl)
    generalize t[i] = x at *
    simp (config := sc) (disch := try exact dd) [std, e0, e5, e6, e7, k6, hn]
    refine oc q ?_
    simp (config := sc) (disch := try exact dd) [std, e0, e5, e6, e7, k6, hn, hz]
  | true =>
    rw [hr, Bool.true_and] at hat
    rw [hr] at q
    cases i with
    | zero =>
      have hs := hstep (by rw [hat]; rfl)
      have hn : nth t 0 = t[0] := hn
      have k6 : 0 < t.length := by omega
      generalize t[0] = x at *
      simp (config := sc) (disch := try exact dd) [std, e0, e5, e6, e7, k6, hn]
      refine oc q ?_
      simp (config := sc) (disch := try exact dd) [std, e0, e5, e6, e7, k6, hn]
      exact nxt_of 1 ⟨by omega, hs, by simp (config := sc) (disch := try exact dd) [std, e0], by simp (config := sc) (disch := try exact dd) [std, e5], by simp (config := sc) (disch := try exact dd) [std, e6], by simp (config := sc) (disch := try exact dd) [std]⟩ (by omega)
    | succ i =>
      have hjl : i < t.length := by omega
      have hn2 : nth t (i : Int) = t[i] := nth_nat hjl
      have hi1 : ((i + 1 : Nat) : Int) - 1 = i := by omega
      have hp1 : (0 : Int) < (i : Int) + 1 := by omega
      have hl1 : (i : Int) < t.length := by omega
      have hn : nth t ((i : Int) + 1) = t[i + 1] := hn
      have k6 : (i : Int) + 1 < t.length := by omega
      have hat : tabAt t (i + 1) = decide (t[i].addr < t[i + 1].addr) := by
       rw [hat]
       simp [List.getD_eq_getElem?_getD, List.getElem?_eq_getElem hjl]
      by_cases hc : t[i].addr < t[i + 1].addr
      ·have hs := hstep (by rw [hat]; simpa using hc)
       have hc' : ¬ t[i + 1].addr ≤ t[i].addr := by omega
       generalize t[i + 1] = x at *
       generalize t[i] = y at *
       simp (config := sc) (disch := try exact dd) [std, e0, e5, e6, e7, k6, hn]
       refine oc q ?_
       simp (config := sc) (disch := try exact dd) [std, e0, e5, e6, e7, k6, hn, hn2, hi1, hp1, hl1, hc, hc']
       exact nxt_of (i + 2) ⟨by omega, hs, by simp (config := sc) (disch := try exact dd) [std, e0], by simp (config := sc) (disch := try exact dd) [std, e5], by simp (config := sc) (disch := try exact dd) [std, e6], by simp (config := sc) (disch := try exact dd) [std]; omega⟩ (by omega)
      ·have hz := tab_no hlt (by rw [hat]; simpa using hc)
       have hc' : t[i + 1].addr ≤ t[i].addr := by omega
       generalize t[i + 1] = x at *
       generalize t[i] = y at *
       simp (config := sc) (disch := try exact dd) [std, e0, e5, e6, e7, k6, hn]
       refine oc q ?_
       simp (config := sc) (disch := try exact dd) [std, e0, e5, e6, e7, k6, hn, hn2, hi1, hp1, hl1, hc, hc', hz]
 ·have k6 : ¬ (i : Int) < t.length := by omega
  have hz : tableR t = decide ((t.length : Int) ≤ 64) := by
   rw [Bool.eq_iff_iff, tab_all, decide_eq_true_eq]
   constructor
   ·rintro ⟨h, _⟩; omega
   ·exact fun h => ⟨by omega, fun j hj => ha j (by omega)⟩
  rw [hz]
  simp (config := sc) (disch := try exact dd) [std, e0, e5, e6, e7, k6]
theorem tableGood (t : List LeaseR) (ht : t.length ≤ 1000000) (hk : ∀ l ∈ t, l.key.length ≤ 9223372036854775807) : Holds Tryz.prog 70 [.d (.slice (t.map LeaseR.d))] (.d (.slice ((goodT t).map LeaseR.d))) (fun j => j == 0) := by
 refine Holds.by (by kernel_rfl) Tryz.func70 (by kernel_rfl) rfl [] (by simp) (by kernel_rfl) (by kernel_rfl) rfl ?_
 conv in ccs _ => cbv
 have q := tableRight t ht hk
 unfold goodT
 cases hr : tableR t with
 | false =>
   rw [hr] at q
   simp (config := sc) (disch := try exact dd) [std]
   refine oc q ?_
   simp (config := sc) (disch := try exact dd) [std]
 | true =>
   rw [hr] at q
   simp (config := sc) (disch := try exact dd) [std]
   refine oc q ?_
   simp (config := sc) (disch := try exact dd) [std]
theorem tableGoodB (t : List LeaseR) (ht : t.length ≤ 1000000) (hk : ∀ l ∈ t, l.key.length ≤ 9223372036854775807) (hr : tableR t = true) {fo : Nat} {gl : Nat → Nat} :
  Meets Tryz.prog fo gl 70 [.d (.slice (t.map LeaseR.d))] [] (.bsl (fo + 8) (gl (fo + 8) + 1) t.length 4 true) (fun _ => false) [lU (fo + 8) (gl (fo + 8) + 1) t] := by
 refine Meets.by (by kernel_rfl) Tryz.func70 (by kernel_rfl) rfl [10008] (by simp) (by kernel_rfl) (by kernel_rfl) (by simp [namesIn, namesL, lU, lBox]) (by simp [namesIn, namesL, lU, lBox]) (by simp [lU, lBox]) ?_
 conv in ccs _ => cbv
 have q := tableRight t ht hk
 rw [hr] at q
 simp (config := sc) (disch := try exact dd) [std, lU]
 refine oc q ?_
 simp (config := sc) (disch := try exact dd) [std, lU, lBox]
theorem tableGoodN (t : List LeaseR) (ht : t.length ≤ 1000000) (hk : ∀ l ∈ t, l.key.length ≤ 9223372036854775807) (hr : tableR t = false) {fo : Nat} {gl : Nat → Nat} :
  Meets Tryz.prog fo gl 70 [.d (.slice (t.map LeaseR.d))] [] (.d (.slice [])) (fun j => j == 0) [] := by
 refine Meets.by (by kernel_rfl) Tryz.func70 (by kernel_rfl) rfl [10008] (by simp) (by kernel_rfl) (by kernel_rfl) (by simp [namesIn, namesL]) (by simp [namesIn, namesL]) (by simp) ?_
 conv in ccs _ => cbv
 have q := tableRight t ht hk
 rw [hr] at q
 simp (config := sc) (disch := try exact dd) [std]
 refine oc q ?_
 simp (config := sc) (disch := try exact dd) [std]
theorem srt_pos {t : List LeaseR} (h : SrtA t) {a : Int} {m : Nat} (hm : m < t.length) (he : t[m].addr = a) : posA t a = m ∧ isA t a = true := by
 have : posA t a = m := posA_eq (by omega) (fun j hj hjm => by rw [← he]; exact srtA_lt h hm hjm) (fun _ => by omega)
 exact ⟨this, (isA_iff h).2 ⟨_, List.getElem_mem hm, he⟩⟩
theorem gap_pos {t : List LeaseR} {a : Int} {m : Nat} (hm : m ≤ t.length) (h1 : ∀ j (h : j < t.length), j < m → t[j].addr < a) (h2 : ∀ j (h : j < t.length), m ≤ j → a < t[j].addr) : posA t a = m ∧ isA t a = false := by
 have hp : posA t a = m := posA_eq hm h1 fun h => by have := h2 m h (Nat.le_refl _); omega
 refine ⟨hp, ?_⟩
 rw [Bool.eq_false_iff]
 intro h
 obtain ⟨hl, he⟩ := isA_pos h
 have := h2 _ hl (by omega)
 omega
def tpI (t : List LeaseR) (a : Int) (q : Nat × Nat) (S : PS) : Prop :=
 q.1 ≤ q.2 ∧ q.2 ≤ t.length ∧ (∀ j (h : j < t.length), j < q.1 → t[j].addr < a) ∧ (∀ j (h : j < t.length), q.2 ≤ j → a < t[j].addr) ∧ S.t 0 = .d (.slice (t.map LeaseR.d)) ∧ S.t 1 = .d (.int .i64 a) ∧ S.t 6 = .d (.int .i64 q.1) ∧ S.t 7 = .d (.int .i64 q.2)
theorem tablePlace (t : List LeaseR) (a : Int) (ht : t.length ≤ 1000000) (hs : SrtA t) : Holds Tryz.prog 72 [.d (.slice (t.map LeaseR.d)), .d (.int .i64 a)] (.tup [.d (.int .i64 (posA t a)), .d (.bool (isA t a))]) (fun _ => false) := by
 refine Holds.by (by kernel_rfl) Tryz.func72 (by kernel_rfl) rfl [] (by simp) (by kernel_rfl) (by kernel_rfl) rfl ?_
 conv in ccs _ => cbv
 simp (config := sc) (disch := try exact dd) [std]
 refine lp (tpI t a) (fun q => q.2 - q.1) (0, t.length) ⟨by simp, by simp, by simp, fun j h h2 => by simp at h2; omega, by simp, by simp, by simp, by simp⟩ ?_
 rintro ⟨lo, hi⟩ S ⟨hlh, hhl, h1, h2, e0, e1, e6, e7⟩
 dsimp only at hlh hhl h1 h2 e6 e7
 by_cases hlt : lo < hi
 ·have k6 : (lo : Int) < hi := by omega
  have hq : ((lo : Int) + hi).tdiv 2 = ((lo + hi) / 2 : Nat) := by
   rw [show ((lo : Int) + hi) = ((lo + hi : Nat) : Int) by omega]
   exact (Int.ofNat_tdiv (lo + hi) 2).symm
  have hm1 : lo ≤ (lo + hi) / 2 := by omega
  have hm2 : (lo + hi) / 2 < hi := by omega
  generalize (lo + hi) / 2 = m at *
  have hml : m < t.length := by omega
  have hml' : (m : Int) < t.length := by omega
  have hn : nth t (m : Int) = t[m] := nth_nat hml
  by_cases c1 : t[m].addr = a
  ·obtain ⟨hp, hia⟩ := srt_pos hs hml c1
   rw [hp, hia]
   have hsx := fun (j : Nat) (h : j < t.length) => 0
   generalize t[m] = x at *
   simp (config := sc) (disch := try exact dd) [std, e0, e1, e6, e7, k6, hq, hml', hn, c1]
  ·by_cases c2 : t[m].addr < a
   ·have h1' : ∀ j (h : j < t.length), j < m + 1 → t[j].addr < a := fun j h hj => by
     by_cases e : j = m
     ·subst e; exact c2
     ·have := srtA_lt hs hml (show j < m by omega); omega
    generalize t[m] = x at *
    simp (config := sc) (disch := try exact dd) [std, e0, e1, e6, e7, k6, hq, hml', hn, c1, c2]
    exact nxt_of (m + 1, hi) ⟨by show m + 1 ≤ hi; omega, hhl, h1', h2, by simp (config := sc) (disch := try exact dd) [std, e0], by simp (config := sc) (disch := try exact dd) [std, e1], by simp (config := sc) (disch := try exact dd) [std], by simp (config := sc) (disch := try exact dd) [std, e7]⟩ (by show hi - (m + 1) < hi - lo; omega)
   ·have h2' : ∀ j (h : j < t.length), m ≤ j → a < t[j].addr := fun j h hj => by
     by_cases e : j = m
     ·subst e; omega
     ·have := srtA_lt hs h (show m < j by omega); omega
    generalize t[m] = x at *
    simp (config := sc) (disch := try exact dd) [std, e0, e1, e6, e7, k6, hq, hml', hn, c1, c2]
    exact nxt_of (lo, m) ⟨hm1, by show m ≤ t.length; omega, h1, h2', by simp (config := sc) (disch := try exact dd) [std, e0], by simp (config := sc) (disch := try exact dd) [std, e1], by simp (config := sc) (disch := try exact dd) [std, e6], by simp (config := sc) (disch := try exact dd) [std]⟩ (by show m - lo < hi - lo; omega)
 ·have k6 : ¬ (lo : Int) < hi := by omega
  have hle : lo = hi := by omega
  subst hle
  obtain ⟨hp, hia⟩ := gap_pos hhl h1 h2
  rw [hp, hia]
  by_cases hll : lo < t.length
  ·have hll' : (lo : Int) < t.length := by omega
   have hn : nth t (lo : Int) = t[lo] := nth_nat hll
   have hne : ¬ t[lo].addr = a := by have := h2 lo hll (Nat.le_refl _); omega
   generalize t[lo] = x at *
   simp (config := sc) (disch := try exact dd) [std, e0, e1, e6, e7, k6, hll', hn, hne]
  ·have hll' : ¬ (lo : Int) < t.length := by omega
   simp (config := sc) (disch := try exact dd) [std, e0, e1, e6, e7, k6, hll']
theorem tablePlace0 (a : Int) {fo : Nat} {gl : Nat → Nat} : Meets Tryz.prog fo gl 72 [.d (.slice []), .d (.int .i64 a)] [] (.tup [.d (.int .i64 0), .d (.bool false)]) (fun _ => false) [] := by
 refine Meets.by (by kernel_rfl) Tryz.func72 (by kernel_rfl) rfl [] (by simp) (by kernel_rfl) (by kernel_rfl) (by simp [namesIn, namesL]) (by simp [namesIn, namesL]) (by simp) ?_
 conv in ccs _ => cbv
 simp (config := sc) (disch := try exact dd) [std]
 refine lp (fun (_ : Unit) S => S.t 0 = .d (.slice []) ∧ S.t 1 = .d (.int .i64 a) ∧ S.t 6 = .d (.int .i64 0) ∧ S.t 7 = .d (.int .i64 0)) (fun _ => 0) () ⟨by simp, by simp, by simp, by simp⟩ ?_
 rintro _ S ⟨e0, e1, e6, e7⟩
 simp (config := sc) (disch := try exact dd) [std, e0, e1, e6, e7]
def tqI (no g fo : Nat) (t : List LeaseR) (a : Int) (q : Nat × Nat) (S : PS) : Prop :=
 q.1 ≤ q.2 ∧ q.2 ≤ t.length ∧ (∀ j (h : j < t.length), j < q.1 → t[j].addr < a) ∧ (∀ j (h : j < t.length), q.2 ≤ j → a < t[j].addr) ∧ S.t 0 = .bsl no g t.length 4 true ∧ S.t 1 = .d (.int .i64 a) ∧ S.t 6 = .d (.int .i64 q.1) ∧ S.t 7 = .d (.int .i64 q.2) ∧ S.fo = fo ∧ S.gen no = g ∧ S.box no = lBox t
theorem tablePlaceB (t : List LeaseR) (a : Int) (ht : t.length ≤ 1000000) (hs : SrtA t) (no g : Nat) {fo : Nat} {gl : Nat → Nat} (hno : no < fo) (hg : 0 < g) :
  Meets Tryz.prog fo gl 72 [.bsl no g t.length 4 true, .d (.int .i64 a)] [lU no g t] (.tup [.d (.int .i64 (posA t a)), .d (.bool (isA t a))]) (fun _ => false) [lU no g t] := by
 refine Meets.by (by kernel_rfl) Tryz.func72 (by kernel_rfl) rfl [] (by simp) (by kernel_rfl) (by kernel_rfl) (by simp [namesIn, namesL, hg, lU, lBox]) (by simp [namesIn, namesL, hg, lU, lBox]) (by simp [hg, lU, lBox]) ?_
 conv in ccs _ => cbv
 have hk1 : ∀ k, (no = fo + k) = False := fun k => by simp; omega
 have hk2 : ∀ k, (fo + k = no) = False := fun k => by simp; omega
 simp (config := sc) (disch := try exact dd) [std, lU]
 refine lp (tqI no g fo t a) (fun q => q.2 - q.1) (0, t.length) ⟨by simp, by simp, by simp, fun j h h2 => by simp at h2; omega, by simp, by simp, by simp, by simp, by simp, by simp (config := sc) (disch := try exact dd) [std, hk1, hk2], by simp (config := sc) (disch := try exact dd) [std, hk1, hk2]⟩ ?_
 rintro ⟨lo, hi⟩ S ⟨hlh, hhl, h1, h2, e0, e1, e6, e7, efo, g1, b1⟩
 dsimp only at hlh hhl h1 h2 e6 e7
 by_cases hlt : lo < hi
 ·have k6 : (lo : Int) < hi := by omega
  have hq : ((lo : Int) + hi).tdiv 2 = ((lo + hi) / 2 : Nat) := by
   rw [show ((lo : Int) + hi) = ((lo + hi : Nat) : Int) by omega]
   exact (Int.ofNat_tdiv (lo + hi) 2).symm
  have hm1 : lo ≤ (lo + hi) / 2 := by omega
  have hm2 : (lo + hi) / 2 < hi := by omega
  generalize (lo + hi) / 2 = m at *
  have hml : m < t.length := by omega
  have hml' : (m : Int) < t.length := by omega
  have hat := lBox_fst hml
  have hbl : m * 4 < (lBox t).length := by rw [lBox_len]; omega
  have hat : (lBox t)[m * 4] = .d (.int .i64 t[m].addr) := by rw [List.getElem?_eq_getElem hbl] at hat; exact Option.some.inj hat
  by_cases c1 : t[m].addr = a
  ·obtain ⟨hp, hia⟩ := srt_pos hs hml c1
   rw [hp, hia]
   rw [c1] at hat
   simp (config := sc) (disch := try exact dd) [std, e0, e1, e6, e7, k6, hq, hml', hat, hbl, g1, b1, lU, efo, hk1, hk2]
  ·by_cases c2 : t[m].addr < a
   ·have h1' : ∀ j (h : j < t.length), j < m + 1 → t[j].addr < a := fun j h hj => by
     by_cases e : j = m
     ·subst e; exact c2
     ·have := srtA_lt hs hml (show j < m by omega); omega
    generalize t[m].addr = x at *
    simp (config := sc) (disch := try exact dd) [std, e0, e1, e6, e7, k6, hq, hml', hat, hbl, g1, b1, c1, c2]
    exact nxt_of (m + 1, hi) ⟨by show m + 1 ≤ hi; omega, hhl, h1', h2, by simp (config := sc) (disch := try exact dd) [std, e0], by simp (config := sc) (disch := try exact dd) [std, e1], by simp (config := sc) (disch := try exact dd) [std], by simp (config := sc) (disch := try exact dd) [std, e7], by simp (config := sc) (disch := try exact dd) [std, efo], by simp (config := sc) (disch := try exact dd) [std, g1], by simp (config := sc) (disch := try exact dd) [std, b1]⟩ (by show hi - (m + 1) < hi - lo; omega)
   ·have h2' : ∀ j (h : j < t.length), m ≤ j → a < t[j].addr := fun j h hj => by
     by_cases e : j = m
     ·subst e; omega
     ·have := srtA_lt hs h (show m < j by omega); omega
    generalize t[m].addr = x at *
    simp (config := sc) (disch := try exact dd) [std, e0, e1, e6, e7, k6, hq, hml', hat, hbl, g1, b1, c1, c2]
    exact nxt_of (lo, m) ⟨hm1, by show m ≤ t.length; omega, h1, h2', by simp (config := sc) (disch := try exact dd) [std, e0], by simp (config := sc) (disch := try exact dd) [std, e1], by simp (config := sc) (disch := try exact dd) [std, e6], by simp (config := sc) (disch := try exact dd) [std], by simp (config := sc) (disch := try exact dd) [std, efo], by simp (config := sc) (disch := try exact dd) [std, g1], by simp (config := sc) (disch := try exact dd) [std, b1]⟩ (by show m - lo < hi - lo; omega)
 ·have k6 : ¬ (lo : Int) < hi := by omega
  have hle : lo = hi := by omega
  subst hle
  obtain ⟨hp, hia⟩ := gap_pos hhl h1 h2
  rw [hp, hia]
  by_cases hll : lo < t.length
  ·have hll' : (lo : Int) < t.length := by omega
   have hat := lBox_fst hll
   have hbl : lo * 4 < (lBox t).length := by rw [lBox_len]; omega
   have hat : (lBox t)[lo * 4] = .d (.int .i64 t[lo].addr) := by rw [List.getElem?_eq_getElem hbl] at hat; exact Option.some.inj hat
   have hne : ¬ t[lo].addr = a := by have := h2 lo hll (Nat.le_refl _); omega
   generalize t[lo].addr = x at *
   simp (config := sc) (disch := try exact dd) [std, e0, e1, e6, e7, k6, hll', hat, hbl, hne, g1, b1, lU, efo, hk1, hk2]
  ·have hll' : ¬ (lo : Int) < t.length := by omega
   simp (config := sc) (disch := try exact dd) [std, e0, e1, e6, e7, k6, hll', g1, b1, lU, efo, hk1, hk2]
end Go.Proofs.YtnkmlhlegndlhaaGreat
