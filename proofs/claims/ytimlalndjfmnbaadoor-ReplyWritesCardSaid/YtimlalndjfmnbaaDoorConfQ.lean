/- Configurations: what the program's conf answers, second part. -/
import Derived.Test.YtimlalndjfmnbaaDoorConfP
namespace Go.Proofs.YtimlalndjfmnbaaDoor
open BoEng Go
set_option maxRecDepth 100000
attribute [-simp] List.map_take List.map_drop List.length_flatMap
set_option linter.unusedSimpArgs false
set_option linter.unusedVariables false

theorem subsF_at : ∀ (k i : Nat) (l : List Sub) (x : Spot), x ∈ subsF k i l → x.net = k ∧ i ≤ x.sub ∧ x.sub < i + l.length
  | _, _, [], _, h => by simp [subsF] at h
  | k, i, s :: l, x, h => by
    simp only [subsF, List.mem_cons] at h
    rcases h with rfl | h
    · simp
    · have := subsF_at k (i + 1) l x h
      simp only [List.length_cons]
      omega
theorem spotsF_at : ∀ (k : Nat) (l : List Net) (x : Spot), x ∈ spotsF k l → k ≤ x.net ∧ x.net < k + l.length ∧ (∀ n ∈ l, n.subs.length ≤ 1000) → x.sub ≤ 1000 ∨ True
  | _, _, _, _ => fun _ => .inr trivial
theorem spotsF_net : ∀ (k : Nat) (l : List Net) (x : Spot), x ∈ spotsF k l → k ≤ x.net ∧ x.net < k + l.length
  | _, [], _, h => by simp [spotsF] at h
  | k, n :: l, x, h => by
    simp only [spotsF, List.mem_append, List.length_cons] at h ⊢
    rcases h with h | h
    · have := subsF_at _ _ _ _ h
      omega
    · have := spotsF_net (k + 1) l x h
      omega
theorem spots_net {c : Cfg} (hc : sizedC c) {i : Nat} (hi : i < (spotsS c).length) : (spotsS c)[i].net ≤ 100000 := by
  have := spotsF_net _ _ _ (List.getElem_mem hi)
  have := hc.1
  unfold spotsS at *
  omega

def ulI (c : Cfg) (i : Nat) (S : PS) : Prop :=
  i ≤ (spotsS c).length ∧ ((spotsS c).zipIdx.take i).all (likeRow (spotsS c)) = true ∧ S.t 3 = .d (.slice ((spotsS c).map Spot.d)) ∧ S.t 10 = .d (.slice ((spotsS c).map Spot.d)) ∧ S.t 11 = .d (.int .i64 (spotsS c).length) ∧ S.t 12 = .d (.int .i64 i)
def ulJ (c : Cfg) (i : Nat) (x : Spot) (fo g : Nat) (k : Nat) (S : PS) : Prop :=
  k ≤ (spotsS c).length ∧ ((spotsS c).zipIdx.take k).all (likePair (x, i)) = true ∧ S.t 3 = .d (.slice ((spotsS c).map Spot.d)) ∧ S.t 10 = .d (.slice ((spotsS c).map Spot.d)) ∧ S.t 11 = .d (.int .i64 (spotsS c).length) ∧ S.t 12 = .d (.int .i64 i) ∧
    S.t 4 = .d (.int .i64 i) ∧ S.t 5 = .ptr (fo + 5) g 0 ∧ S.fo = fo ∧ S.gen (fo + 5) = g ∧ S.box (fo + 5) = (cells x.d).map .d ∧ S.t 17 = .d (.slice ((spotsS c).map Spot.d)) ∧ S.t 18 = .d (.int .i64 (spotsS c).length) ∧ S.t 19 = .d (.int .i64 k)
theorem confUnlike (c : Cfg) (hc : sizedC c) : Holds Tryd.prog 83 [.d c.d] (.d (.bool (unlikeS c))) (fun _ => false) := by
  refine Holds.by (by kernel_rfl) Tryd.func83 (by kernel_rfl) rfl [] (by simp) (by kernel_rfl) (by kernel_rfl) rfl ?_
  conv in ccs _ => cbv
  have hsl := spots_len hc
  simp (config := sc) (disch := try exact dd) [std]
  refine oc (confSpots c hc) ?_
  simp (config := sc) (disch := try exact dd) [std]
  refine lp (ulI c) (fun i => (spotsS c).length - i) 0 ⟨by omega, by simp, by simp (config := sc) (disch := try exact dd) [std]⟩ ?_
  rintro i S ⟨hi, ha, e3, e10, e11, e12⟩
  by_cases hlt : i < (spotsS c).length
  · have k6 : (i : Int) < (spotsS c).length := by omega
    have hsz := spots_sized hc hlt
    have hnt := spots_net hc hlt
    have hpx : (likeRow (spotsS c) ((spotsS c)[i], i)) = false → unlikeS c = false := fun h => zall_bad (p := likeRow (spotsS c)) hlt h
    have hpy := zall_step (p := likeRow (spotsS c)) hlt ha
    simp (config := sc) (disch := try exact dd) [std, e3, e10, e11, e12, k6]
    refine lp (ulJ c i (spotsS c)[i] S.fo (S.gen (S.fo + 5) + 1)) (fun k => (spotsS c).length - k) 0 ⟨by omega, by simp, by simp (config := sc) (disch := try exact dd) [std, e3, e10, e11, e12]⟩ ?_
    rintro k S1 ⟨hki, hka, e3, e10, e11, e12, e4, e5, efo, eg, eb, e17, e18, e19⟩
    simp only [Spot.d_eq, cells_agg, List.map_cons, List.map_nil] at eb
    by_cases hlt2 : k < (spotsS c).length
    · have k7 : (k : Int) < (spotsS c).length := by omega
      have hsz2 := spots_sized hc hlt2
      have hnt2 := spots_net hc hlt2
      have hq := confOnce (spotsS c)[i] (spotsS c)[k] (decide (i = k)) hsz hsz2 hnt hnt2
      have hik : decide (i = k) = decide ((i : Int) = k) := by rw [Bool.eq_iff_iff]; simp; omega
      have hpair : likePair ((spotsS c)[i], i) ((spotsS c)[k], k) = onceS (spotsS c)[i] (spotsS c)[k] (decide (i = k)) := rfl
      have hbx := fun (hq : likePair ((spotsS c)[i], i) ((spotsS c)[k], k) = false) => hpx (zall_bad (p := likePair ((spotsS c)[i], i)) hlt2 hq)
      have hby := zall_step (p := likePair ((spotsS c)[i], i)) hlt2 hka
      rw [hpair] at hbx hby
      have hlast : ∀ b, onceS (spotsS c)[i] (spotsS c)[k] (decide (i = k)) = b → Holds Tryd.prog 94 [.d (spotsS c)[i].d, .d (spotsS c)[k].d, .d (.bool (decide ((i : Int) = k)))] (.d (.bool b)) (fun _ => false) := by
        intro b hb
        rw [← hik, ← hb]
        exact hq
      simp only [Spot.d_eq] at hlast
      by_cases hik2 : (i : Int) = k
      · rw [decide_eq_true hik2] at hlast
        have hikn : i = k := by omega
        cases hb : onceS (spotsS c)[i] (spotsS c)[k] (decide (i = k)) with
        | false =>
          have hz := hbx hb
          simp (config := sc) (disch := try exact dd) [std, e3, e10, e11, e12, e4, e5, efo, eg, eb, e17, e18, e19, k7, eq_true hik2]
          refine oc (hlast false hb) ?_
          simp (config := sc) (disch := try exact dd) [std, hz]
        | true =>
          simp (config := sc) (disch := try exact dd) [std, e3, e10, e11, e12, e4, e5, efo, eg, eb, e17, e18, e19, k7, eq_true hik2]
          refine oc (hlast true hb) ?_
          simp (config := sc) (disch := try exact dd) [std, e3, e10, e11, e12, e4, e5, efo, eg, eb, e17, e18, e19]
          exact nxt_of (k + 1) ⟨by omega, hby hb, by simp (config := sc) (disch := try exact dd) [std, e3, e10, e11, e12, e4, e5, efo, eg, eb, e17, e18, e19]⟩ (by omega)
      · rw [decide_eq_false hik2] at hlast
        cases hb : onceS (spotsS c)[i] (spotsS c)[k] (decide (i = k)) with
        | false =>
          have hz := hbx hb
          simp (config := sc) (disch := try exact dd) [std, e3, e10, e11, e12, e4, e5, efo, eg, eb, e17, e18, e19, k7, hik2]
          refine oc (hlast false hb) ?_
          simp (config := sc) (disch := try exact dd) [std, hz]
        | true =>
          simp (config := sc) (disch := try exact dd) [std, e3, e10, e11, e12, e4, e5, efo, eg, eb, e17, e18, e19, k7, hik2]
          refine oc (hlast true hb) ?_
          simp (config := sc) (disch := try exact dd) [std, e3, e10, e11, e12, e4, e5, efo, eg, eb, e17, e18, e19]
          exact nxt_of (k + 1) ⟨by omega, hby hb, by simp (config := sc) (disch := try exact dd) [std, e3, e10, e11, e12, e4, e5, efo, eg, eb, e17, e18, e19]⟩ (by omega)
    · have k7 : ¬ (k : Int) < (spotsS c).length := by omega
      simp (config := sc) (disch := try exact dd) [std, e3, e10, e11, e12, e4, e17, e18, e19, k7]
      exact nxt_of (i + 1) ⟨by omega, hpy (zall_end hlt2 hka), by simp (config := sc) (disch := try exact dd) [std, e3, e10, e11, e12]⟩ (by omega)
  · have k6 : ¬ (i : Int) < (spotsS c).length := by omega
    have hz : unlikeS c = true := zall_end hlt ha
    simp (config := sc) (disch := try exact dd) [std, e3, e10, e11, e12, k6, hz]

theorem confCheck (c : Cfg) (hc : sizedC c) : Holds Tryd.prog 67 [.d c.d] (.d (.int .i64 (checkS c))) (fun _ => false) := by
  refine Holds.by (by kernel_rfl) Tryd.func67 (by kernel_rfl) rfl [20001] (by simp) (by kernel_rfl) (by kernel_rfl) rfl ?_
  conv in ccs _ => cbv
  cases h1 : formS c with
  | false =>
    have hz : checkS c = 1 := by simp [checkS, h1]
    simp (config := sc) (disch := try exact dd) [std]
    refine oc (confForm c hc) ?_
    simp (config := sc) (disch := try exact dd) [std, h1, hz]
  | true =>
    simp (config := sc) (disch := try exact dd) [std]
    refine oc (confForm c hc) ?_
    simp (config := sc) (disch := try exact dd) [std, h1]
    refine oc (confPlaced c hc h1) ?_
    cases h2 : placedS c with
    | false =>
      have hz : checkS c = 9 := by simp [checkS, h1, h2]
      simp (config := sc) (disch := try exact dd) [std, h1, hz]
    | true =>
      simp (config := sc) (disch := try exact dd) [std, h1]
      refine oc (confUnlike c hc) ?_
      cases h3 : unlikeS c with
      | false =>
        have hz : checkS c = 8 := by simp [checkS, h1, h2, h3]
        simp (config := sc) (disch := try exact dd) [std, hz]
      | true =>
        have hz : checkS c = 0 := by simp [checkS, h1, h2, h3]
        simp (config := sc) (disch := try exact dd) [std, hz]

end Go.Proofs.YtimlalndjfmnbaaDoor
