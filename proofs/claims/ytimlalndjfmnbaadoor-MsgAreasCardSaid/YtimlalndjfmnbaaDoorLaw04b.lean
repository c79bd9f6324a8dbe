/- Chapter 4's laws: which messages are right, how they are written, how bytes are read. -/
import Derived.Test.YtimlalndjfmnbaaDoorLaw04
namespace Go.Proofs.YtimlalndjfmnbaaDoor
open BoEng Go
set_option maxRecDepth 100000
attribute [-simp] List.map_take List.map_drop List.length_flatMap
set_option linter.unusedSimpArgs false
set_option linter.unusedVariables false

theorem maxLen_le4 : maxLen ≤ 9223372036854775807 := by decide
theorem bytesS_len (m : Msg) : (bytesS m).length = max (hdS m).length 300 := by
  unfold bytesS
  simp only [List.length_append, List.length_replicate]
  omega

theorem lawMRights (m : Msg) (hok : MsgOk m) : Holds Tryd.prog 3 [.d m.d] (.d (.bool true)) (fun _ => false) := by
  refine Holds.by (by kernel_rfl) Tryd.func3 (by kernel_rfl) rfl [20001] (by simp) (by kernel_rfl) (by kernel_rfl) rfl ?_
  conv in ccs _ => cbv
  have hg := great04 m (Nat.le_trans hok.2.2.1 maxLen_le4)
  cases h : smallM m with
  | false =>
    rw [h] at hg
    repeat' (first | (simp (config := sc) (disch := try exact dd) [*, std]) | (refine oc (hg) ?_) | (refine oc (knows4) ?_) | (refine sel_by ?_ ?_ <;> intro hc <;> have hc2 := hc <;> (try simp only [decide_eq_true_eq, decide_eq_false_iff_not, Bool.and_eq_true, Bool.or_eq_true, Bool.not_eq_true', Bool.not_eq_false', Bool.or_eq_false_iff, Bool.and_eq_false_iff] at hc2) <;> try omega) | (refine cnd_by ?_ ?_ <;> intro hc <;> have hc2 := hc <;> (try simp only [decide_eq_true_eq, decide_eq_false_iff_not, Bool.and_eq_true, Bool.or_eq_true, Bool.not_eq_true', Bool.not_eq_false', Bool.or_eq_false_iff, Bool.and_eq_false_iff] at hc2) <;> try omega) | (refine onSt_if (by omega) ?_) | (split <;> try omega) | omega)
  | true =>
    rw [h] at hg
    have hm := small_sized h
    have q1 := msgRight m hm
    have q2 := lawAsM m
    have q3 := ref04Right m hm
    simp (config := sc) (disch := try exact dd) [std]
    refine oc hg ?_
    simp (config := sc) (disch := try exact dd) [std]
    refine oc q1 ?_
    simp (config := sc) (disch := try exact dd) [std]
    refine oc q2 ?_
    simp (config := sc) (disch := try exact dd) [std]
    refine oc q3 ?_
    simp (config := sc) (disch := try exact dd) [std]
    refine oc knows4 ?_
    simp (config := sc) (disch := try exact dd) [std]

theorem lawMWrites (m : Msg) (hok : MsgOk m) : Holds Tryd.prog 4 [.d m.d] (.d (.bool true)) (fun _ => false) := by
  refine Holds.by (by kernel_rfl) Tryd.func4 (by kernel_rfl) rfl [20001] (by simp) (by kernel_rfl) (by kernel_rfl) rfl ?_
  conv in ccs _ => cbv
  have hg := great04 m (Nat.le_trans hok.2.2.1 maxLen_le4)
  cases h : smallM m with
  | false =>
    rw [h] at hg
    repeat' (first | (simp (config := sc) (disch := try exact dd) [*, std]) | (refine oc (hg) ?_) | (refine oc (knows4) ?_) | (refine sel_by ?_ ?_ <;> intro hc <;> have hc2 := hc <;> (try simp only [decide_eq_true_eq, decide_eq_false_iff_not, Bool.and_eq_true, Bool.or_eq_true, Bool.not_eq_true', Bool.not_eq_false', Bool.or_eq_false_iff, Bool.and_eq_false_iff] at hc2) <;> try omega) | (refine cnd_by ?_ ?_ <;> intro hc <;> have hc2 := hc <;> (try simp only [decide_eq_true_eq, decide_eq_false_iff_not, Bool.and_eq_true, Bool.or_eq_true, Bool.not_eq_true', Bool.not_eq_false', Bool.or_eq_false_iff, Bool.and_eq_false_iff] at hc2) <;> try omega) | (refine onSt_if (by omega) ?_) | (split <;> try omega) | omega)
  | true =>
    rw [h] at hg
    have hm := small_sized h
    have q1 := msgWrite m hm
    have q2 := lawAsM m
    have q3 := ref04Right m hm
    unfold writeM at q1
    cases hr : rightM m with
    | false =>
      rw [hr] at q3 q1
      rw [if_pos rfl] at q1
      simp (config := sc) (disch := try exact dd) [std]
      refine oc hg ?_
      simp (config := sc) (disch := try exact dd) [std]
      refine oc q1 ?_
      simp (config := sc) (disch := try exact dd) [std]
      refine oc q2 ?_
      simp (config := sc) (disch := try exact dd) [std]
      refine oc q3 ?_
      simp (config := sc) (disch := try exact dd) [std]
      refine oc knows4 ?_
      simp (config := sc) (disch := try exact dd) [std]
    | true =>
      have q4 := ref04Bytes m hr
      have hlen := bytesS_len m
      rw [hr] at q3 q1
      rw [if_neg (by decide)] at q1
      by_cases hb : 1500 < (hdS m).length
      · rw [if_pos hb] at q1
        have hb2 : 1500 < ((bytesS m).length : Int) := by omega
        generalize bytesS m = b at *
        simp (config := sc) (disch := try exact dd) [std]
        refine oc hg ?_
        simp (config := sc) (disch := try exact dd) [std]
        refine oc q1 ?_
        simp (config := sc) (disch := try exact dd) [std]
        refine oc q2 ?_
        simp (config := sc) (disch := try exact dd) [std]
        refine oc q3 ?_
        simp (config := sc) (disch := try exact dd) [std]
        refine oc q2 ?_
        simp (config := sc) (disch := try exact dd) [std]
        refine oc q4 ?_
        simp (config := sc) (disch := try exact dd) [std, hb2]
        refine oc knows4 ?_
        simp (config := sc) (disch := try exact dd) [std]
      · rw [if_neg hb] at q1
        have hb2 : ¬ 1500 < ((bytesS m).length : Int) := by omega
        generalize bytesS m = b at *
        simp (config := sc) (disch := try exact dd) [std]
        refine oc hg ?_
        simp (config := sc) (disch := try exact dd) [std]
        refine oc q1 ?_
        simp (config := sc) (disch := try exact dd) [std]
        refine oc q2 ?_
        simp (config := sc) (disch := try exact dd) [std]
        refine oc q3 ?_
        simp (config := sc) (disch := try exact dd) [std]
        refine oc q2 ?_
        simp (config := sc) (disch := try exact dd) [std]
        refine oc q4 ?_
        simp (config := sc) (disch := try exact dd) [std, hb2]
        refine oc knows4 ?_
        simp (config := sc) (disch := try exact dd) [std]

theorem optsS_err (b : List UInt8) : ((optsS b).1 = 0 ∧ rightO (optsS b).2 = true) ∨ (((optsS b).1 = 2 ∨ (optsS b).1 = 3) ∧ (optsS b).2 = []) := by
  unfold optsS
  have he := rdS_err (b.drop 240)
  generalize rdS (b.drop 240) = p at *
  obtain ⟨e, l⟩ := p
  dsimp only at he ⊢
  rcases he with ⟨rfl, hl⟩ | h
  · rw [if_neg (by decide)]
    rcases takeS_cases hl with ht | ⟨m, v, ht, hm, hv⟩
    · rw [ht, if_pos (by decide)]
      exact .inr ⟨.inl rfl, rfl⟩
    · rw [ht]
      dsimp only
      rw [if_neg (by decide)]
      rcases hv with rfl | rfl | rfl | rfl
      · rw [optsT0]; exact .inl ⟨rfl, hm⟩
      · rw [optsT1]; exact moreS_err hm _
      · rw [optsT2]; exact moreS_err hm _
      · rw [optsT3]
        have h1 := moreS_err hm ((b.take 236).drop 108)
        split
        · exact h1
        · rename_i hn
          rcases h1 with h1 | h1
          · exact moreS_err h1.2 _
          · exact absurd (show (moreS m ((b.take 236).drop 108)).1 ≠ 0 by rcases h1.1 with h | h <;> rw [h] <;> decide) hn
  · rw [if_pos (by rcases h.1 with h | h <;> rw [h] <;> decide)]
    exact .inr ⟨h.1, rfl⟩
theorem rdM_opts (b : List UInt8) : (rdM b).2.opts.length ≤ 60 := by
  have h0 : m0.opts.length ≤ 60 := by decide
  have h1 : (optsS b).2.length ≤ 60 := by
    rcases optsS_err b with h | h
    · exact (right_small h.2).1
    · rw [h.2]; decide
  unfold rdM
  split
  · exact h0
  · split
    · exact h0
    · split
      · exact h0
      · split
        · exact h0
        · exact h1
theorem lawMReads (b : List UInt8) (hl : b.length ≤ maxLen) : Holds Tryd.prog 5 [.d (.slice (b.map byteD))] (.d (.bool true)) (fun _ => false) := by
  refine Holds.by (by kernel_rfl) Tryd.func5 (by kernel_rfl) rfl [] (by simp) (by kernel_rfl) (by kernel_rfl) rfl ?_
  conv in ccs _ => cbv
  by_cases hbig : 5000 < b.length
  · have hb' : (5000 : Int) < b.length := by omega
    simp (config := sc) (disch := try exact dd) [std, hb']
    refine oc knows4 ?_
    simp (config := sc) (disch := try exact dd) [std]
  · have hb' : ¬ (5000 : Int) < b.length := by omega
    have q1 := msgReadN b (by omega)
    have q2 := ref04Read b (by omega)
    have ho := rdM_opts b
    generalize rdM b = p at *
    obtain ⟨e, m⟩ := p
    dsimp only at q1 q2 ho
    have q3 := lawAsM m
    have q4 := same04 m (by omega)
    simp (config := sc) (disch := try exact dd) [std, hb']
    refine oc q1 ?_
    simp (config := sc) (disch := try exact dd) [std]
    refine oc q2 ?_
    simp (config := sc) (disch := try exact dd) [std]
    refine oc q3 ?_
    simp (config := sc) (disch := try exact dd) [std]
    refine oc q4 ?_
    simp (config := sc) (disch := try exact dd) [std]
    refine oc knows4 ?_
    simp (config := sc) (disch := try exact dd) [std]
end Go.Proofs.YtimlalndjfmnbaaDoor
