/- Chapter 4's laws: a message that was written is read as it was; what is read of any bytes is right. -/
import Derived.Test.YtimlalndjfmnbaaDoorBack
namespace Go.Proofs.YtimlalndjfmnbaaDoor
open BoEng Go
set_option maxRecDepth 100000
attribute [-simp] List.map_take List.map_drop List.length_flatMap
set_option linter.unusedSimpArgs false
set_option linter.unusedVariables false

theorem lawMBack (m : Msg) (hok : MsgOk m) : Holds Tryd.prog 6 [.d m.d] (.d (.bool true)) (fun _ => false) := by
  refine Holds.by (by kernel_rfl) Tryd.func6 (by kernel_rfl) rfl [20001] (by simp) (by kernel_rfl) (by kernel_rfl) rfl ?_
  conv in ccs _ => cbv
  have hg := great04 m (Nat.le_trans hok.2.2.1 maxLen_le4)
  cases h : smallM m with
  | false =>
    rw [h] at hg
    repeat' (first | (simp (config := sc) (disch := try exact dd) [*, std]) | (refine oc (hg) ?_) | (refine oc (knows4) ?_) | (refine sel_by ?_ ?_ <;> intro hc <;> have hc2 := hc <;> (try simp only [decide_eq_true_eq, decide_eq_false_iff_not, Bool.and_eq_true, Bool.or_eq_true, Bool.not_eq_true', Bool.not_eq_false', Bool.or_eq_false_iff, Bool.and_eq_false_iff] at hc2) <;> try omega) | (refine cnd_by ?_ ?_ <;> intro hc <;> have hc2 := hc <;> (try simp only [decide_eq_true_eq, decide_eq_false_iff_not, Bool.and_eq_true, Bool.or_eq_true, Bool.not_eq_true', Bool.not_eq_false', Bool.or_eq_false_iff, Bool.and_eq_false_iff] at hc2) <;> try omega) | (refine onSt_if (by omega) ?_) | (split <;> try omega) | omega)
  | true =>
    rw [h] at hg
    have hm := small_sized h
    have q1 := msgWrite m hm
    unfold writeM at q1
    cases hr : rightM m with
    | false =>
      rw [hr] at q1
      rw [if_pos rfl] at q1
      repeat' (first | (simp (config := sc) (disch := try exact dd) [*, std]) | (refine oc (hg) ?_) | (refine oc (q1) ?_) | (refine oc (knows4) ?_) | (refine sel_by ?_ ?_ <;> intro hc <;> have hc2 := hc <;> (try simp only [decide_eq_true_eq, decide_eq_false_iff_not, Bool.and_eq_true, Bool.or_eq_true, Bool.not_eq_true', Bool.not_eq_false', Bool.or_eq_false_iff, Bool.and_eq_false_iff] at hc2) <;> try omega) | (refine cnd_by ?_ ?_ <;> intro hc <;> have hc2 := hc <;> (try simp only [decide_eq_true_eq, decide_eq_false_iff_not, Bool.and_eq_true, Bool.or_eq_true, Bool.not_eq_true', Bool.not_eq_false', Bool.or_eq_false_iff, Bool.and_eq_false_iff] at hc2) <;> try omega) | (refine onSt_if (by omega) ?_) | (split <;> try omega) | omega)
    | true =>
      rw [hr] at q1
      rw [if_neg (by decide)] at q1
      by_cases hb : 1500 < (hdS m).length
      · rw [if_pos hb] at q1
        repeat' (first | (simp (config := sc) (disch := try exact dd) [*, std]) | (refine oc (hg) ?_) | (refine oc (q1) ?_) | (refine oc (knows4) ?_) | (refine sel_by ?_ ?_ <;> intro hc <;> have hc2 := hc <;> (try simp only [decide_eq_true_eq, decide_eq_false_iff_not, Bool.and_eq_true, Bool.or_eq_true, Bool.not_eq_true', Bool.not_eq_false', Bool.or_eq_false_iff, Bool.and_eq_false_iff] at hc2) <;> try omega) | (refine cnd_by ?_ ?_ <;> intro hc <;> have hc2 := hc <;> (try simp only [decide_eq_true_eq, decide_eq_false_iff_not, Bool.and_eq_true, Bool.or_eq_true, Bool.not_eq_true', Bool.not_eq_false', Bool.or_eq_false_iff, Bool.and_eq_false_iff] at hc2) <;> try omega) | (refine onSt_if (by omega) ?_) | (split <;> try omega) | omega)
      · rw [if_neg hb] at q1
        have hlen := bytesS_len m
        have hbk := back m hr (by omega)
        have q2 := msgReadN (bytesS m) (by omega)
        rw [hbk] at q2
        have q3 := lawAsM m
        have q4 := same04 m (by have := hm.2.1; omega)
        have hb3 : (300 : Int) ≤ (bytesS m).length := by omega
        clear hbk
        generalize bytesS m = b at *
        simp (config := sc) (disch := try exact dd) [std]
        refine oc hg ?_
        simp (config := sc) (disch := try exact dd) [std]
        refine oc q1 ?_
        simp (config := sc) (disch := try exact dd) [std]
        refine oc q2 ?_
        simp (config := sc) (disch := try exact dd) [std]
        refine oc q3 ?_
        simp (config := sc) (disch := try exact dd) [std]
        refine oc q3 ?_
        simp (config := sc) (disch := try exact dd) [std]
        refine oc q4 ?_
        simp (config := sc) (disch := try exact dd) [std, hb3]
        refine oc knows4 ?_
        simp (config := sc) (disch := try exact dd) [std]

theorem lawMAny (b : List UInt8) (hl : b.length ≤ maxLen) : Holds Tryd.prog 7 [.d (.slice (b.map byteD))] (.d (.bool true)) (fun _ => false) := by
  refine Holds.by (by kernel_rfl) Tryd.func7 (by kernel_rfl) rfl [20005] (by simp) (by kernel_rfl) (by kernel_rfl) rfl ?_
  conv in ccs _ => cbv
  by_cases hbig : 5000 < b.length
  · have hb' : (5000 : Int) < b.length := by omega
    simp (config := sc) (disch := try exact dd) [std, hb']
    refine oc knows4 ?_
    simp (config := sc) (disch := try exact dd) [std]
  · have hb' : ¬ (5000 : Int) < b.length := by omega
    have q1 := msgReadN b (by omega)
    by_cases h0 : (rdM b).1 = 0
    · have hr := rdM_right b h0
      rw [h0] at q1
      generalize (rdM b).2 = m at *
      have hn := rightM_n hr
      have hsz := right_sz hn.ro
      have hm : sizedM m := ⟨by rw [hn.ch]; decide, by omega, fun o ho => by have := hsz.2 o ho; omega⟩
      have q2 := msgWrite m hm
      have q5 := msgRight m hm
      have q3 := lawAsM m
      have q6 := ref04Right m hm
      have q4 := same04 m (by have := hm.2.1; omega)
      unfold writeM at q2
      rw [hr] at q2 q5 q6
      rw [if_neg (by decide)] at q2
      by_cases hbl : 1500 < (hdS m).length
      · rw [if_pos hbl] at q2
        simp (config := sc) (disch := try exact dd) [std, hb']
        refine oc q1 ?_
        simp (config := sc) (disch := try exact dd) [std]
        refine oc q2 ?_
        simp (config := sc) (disch := try exact dd) [std]
        refine oc q5 ?_
        simp (config := sc) (disch := try exact dd) [std]
        refine oc q3 ?_
        simp (config := sc) (disch := try exact dd) [std]
        refine oc q6 ?_
        simp (config := sc) (disch := try exact dd) [std]
        refine oc knows4 ?_
        simp (config := sc) (disch := try exact dd) [std]
      · rw [if_neg hbl] at q2
        have hlen := bytesS_len m
        have hbk := back m hr (by omega)
        have q7 := msgReadN (bytesS m) (by omega)
        rw [hbk] at q7
        clear hbk
        generalize bytesS m = c at *
        simp (config := sc) (disch := try exact dd) [std, hb']
        refine oc q1 ?_
        simp (config := sc) (disch := try exact dd) [std]
        refine oc q2 ?_
        simp (config := sc) (disch := try exact dd) [std]
        refine oc q5 ?_
        simp (config := sc) (disch := try exact dd) [std]
        refine oc q3 ?_
        simp (config := sc) (disch := try exact dd) [std]
        refine oc q6 ?_
        simp (config := sc) (disch := try exact dd) [std]
        refine oc q7 ?_
        simp (config := sc) (disch := try exact dd) [std]
        refine oc q3 ?_
        simp (config := sc) (disch := try exact dd) [std]
        refine oc q3 ?_
        simp (config := sc) (disch := try exact dd) [std]
        refine oc q4 ?_
        simp (config := sc) (disch := try exact dd) [std]
        refine oc knows4 ?_
        simp (config := sc) (disch := try exact dd) [std]
    · have hr := rdM_bad b h0
      rw [hr] at q1
      generalize (rdM b).1 = e at *
      simp (config := sc) (disch := try exact dd) [std, hb']
      refine oc q1 ?_
      simp (config := sc) (disch := try exact dd) [std, h0, m0]
      refine oc knows4 ?_
      simp (config := sc) (disch := try exact dd) [std]
end Go.Proofs.YtimlalndjfmnbaaDoor
