/- The options of a message's bytes: msg.options. -/
import Derived.Test.YtimlalndjfmnbaaDoorMsgO
namespace Go.Proofs.YtimlalndjfmnbaaDoor
open BoEng Go
set_option maxRecDepth 100000
attribute [-simp] List.map_take List.map_drop List.length_flatMap
set_option linter.unusedSimpArgs false
set_option linter.unusedVariables false

theorem ErrIs.z {v : Value} (h : ErrIs v 0) : v = .nilIface := by
  rcases h with h | h | h
  · exact h.2
  · exact absurd h.1 (by decide)
  · rcases h.1 with h | h <;> exact absurd h (by decide)
theorem ErrIs.nz {v : Value} {n : Int} (h : ErrIs v n) (hn : n ≠ 0) : ∃ t u, v = .iface t u := by
  rcases h with h | h | h
  · exact absurd h.1 hn
  · exact ⟨_, _, h.2⟩
  · obtain ⟨w, h⟩ := h.2
    exact ⟨_, _, h⟩
theorem takeS_cases {l : List Opt} (hl : rightO l = true) : (takeS l = (2, [], 0)) ∨ ∃ m v, takeS l = (0, m, v) ∧ rightO m = true ∧ (v = 0 ∨ v = 1 ∨ v = 2 ∨ v = 3) := by
  unfold takeS
  cases hf : findS l 52 with
  | none => exact .inr ⟨l, 0, rfl, hl, .inl rfl⟩
  | some d =>
    match d with
    | [] => exact .inl rfl
    | _ :: _ :: _ => exact .inl rfl
    | [x] =>
      dsimp only
      split
      · exact .inr ⟨_, _, rfl, without_right hl, by omega⟩
      · exact .inl rfl

theorem optsT0 (m : List Opt) (b : List UInt8) : optsT m 0 b = (0, m) := by simp [optsT]
theorem optsT1 (m : List Opt) (b : List UInt8) : optsT m 1 b = moreS m ((b.take 236).drop 108) := by simp [optsT]
theorem optsT2 (m : List Opt) (b : List UInt8) : optsT m 2 b = moreS m ((b.take 108).drop 44) := by simp [optsT]
theorem optsT3 (m : List Opt) (b : List UInt8) : optsT m 3 b = if (moreS m ((b.take 236).drop 108)).1 ≠ 0 then moreS m ((b.take 236).drop 108) else moreS (moreS m ((b.take 236).drop 108)).2 ((b.take 108).drop 44) := by simp [optsT]

theorem msgOptions (b : List UInt8) (h240 : 240 ≤ b.length) (hb : b.length ≤ 100000) : ∃ v, ErrIs v (optsS b).1 ∧ Holds Tryd.prog 40 [.d (.slice (b.map byteD))] (.tup [.d (.slice ((optsS b).2.map Opt.d)), .d (.opq v)]) (fun _ => false) := by
  have q1 := tlvRead (b.drop 240) (by simp; omega)
  have he := rdS_err (b.drop 240)
  have hz := rdS_sized (b.drop 240)
  have hf1 : ((b.take 236).drop 108).length ≤ 100000 := by simp only [List.length_drop, List.length_take]; omega
  have hf2 : ((b.take 108).drop 44).length ≤ 100000 := by simp only [List.length_drop, List.length_take]; omega
  have a01 : andI .i64 0 1 = 0 := by decide
  have a02 : andI .i64 0 2 = 0 := by decide
  have a11 : andI .i64 1 1 = 1 := by decide
  have a12 : andI .i64 1 2 = 0 := by decide
  have a21 : andI .i64 2 1 = 0 := by decide
  have a22 : andI .i64 2 2 = 2 := by decide
  have a31 : andI .i64 3 1 = 1 := by decide
  have a32 : andI .i64 3 2 = 2 := by decide
  have hlen : (240 : Int) ≤ b.length := by omega
  unfold optsS
  generalize rdS (b.drop 240) = p at *
  obtain ⟨e, l⟩ := p
  dsimp only at q1 he hz ⊢
  by_cases h0 : e = 0
  · subst h0
    have hl : rightO l = true := by
      rcases he with h | h
      · exact h.2
      · rcases h.1 with h | h <;> exact absurd h (by decide)
    rw [if_neg (by decide)]
    obtain ⟨v1, hv1, q2⟩ := msgTake l hz
    rcases takeS_cases hl with ht | ⟨m, v, ht, hm, hv⟩
    · rw [ht] at hv1 q2 ⊢
      obtain ⟨t, u, rfl⟩ := hv1.nz (by decide)
      refine ⟨_, hv1, ?_⟩
      refine Holds.by (by kernel_rfl) Tryd.func40 (by kernel_rfl) rfl [] (by simp) (by kernel_rfl) (by kernel_rfl) rfl ?_
      conv in ccs _ => cbv
      simp (config := sc) (disch := try exact dd) [std]
      refine oc q1 ?_
      simp (config := sc) (disch := try exact dd) [std]
      refine oc q2 ?_
      simp (config := sc) (disch := try exact dd) [std]
      done
    · rw [ht] at hv1 q2 ⊢
      have e1 := hv1.z
      subst e1
      dsimp only at q2 ⊢
      rw [if_neg (by decide)]
      rcases hv with rfl | rfl | rfl | rfl
      · rw [optsT0]
        refine ⟨_, hv1, ?_⟩
        refine Holds.by (by kernel_rfl) Tryd.func40 (by kernel_rfl) rfl [] (by simp) (by kernel_rfl) (by kernel_rfl) rfl ?_
        conv in ccs _ => cbv
        simp (config := sc) (disch := try exact dd) [std]
        refine oc q1 ?_
        simp (config := sc) (disch := try exact dd) [std]
        refine oc q2 ?_
        simp (config := sc) (disch := try exact dd) [std, a01, a02]
        done
      · rw [optsT1]
        obtain ⟨v2, hv2, q3⟩ := msgMore m _ hm hf1
        refine ⟨_, hv2, ?_⟩
        by_cases hz3 : (moreS m ((b.take 236).drop 108)).1 = 0
        · rw [hz3] at hv2
          have e2 := hv2.z
          subst e2
          refine Holds.by (by kernel_rfl) Tryd.func40 (by kernel_rfl) rfl [] (by simp) (by kernel_rfl) (by kernel_rfl) rfl ?_
          conv in ccs _ => cbv
          simp (config := sc) (disch := try exact dd) [std]
          refine oc q1 ?_
          simp (config := sc) (disch := try exact dd) [std]
          refine oc q2 ?_
          simp (config := sc) (disch := try exact dd) [std, a11, a12]
          refine oc q3 ?_
          simp (config := sc) (disch := try exact dd) [std, a11, a12]
          done
        · obtain ⟨t, u, rfl⟩ := hv2.nz hz3
          refine Holds.by (by kernel_rfl) Tryd.func40 (by kernel_rfl) rfl [] (by simp) (by kernel_rfl) (by kernel_rfl) rfl ?_
          conv in ccs _ => cbv
          simp (config := sc) (disch := try exact dd) [std]
          refine oc q1 ?_
          simp (config := sc) (disch := try exact dd) [std]
          refine oc q2 ?_
          simp (config := sc) (disch := try exact dd) [std, a11, a12]
          refine oc q3 ?_
          simp (config := sc) (disch := try exact dd) [std, a11, a12]
          done
      · rw [optsT2]
        obtain ⟨v2, hv2, q3⟩ := msgMore m _ hm hf2
        refine ⟨_, hv2, ?_⟩
        refine Holds.by (by kernel_rfl) Tryd.func40 (by kernel_rfl) rfl [] (by simp) (by kernel_rfl) (by kernel_rfl) rfl ?_
        conv in ccs _ => cbv
        simp (config := sc) (disch := try exact dd) [std]
        refine oc q1 ?_
        simp (config := sc) (disch := try exact dd) [std]
        refine oc q2 ?_
        simp (config := sc) (disch := try exact dd) [std, a21, a22]
        refine oc q3 ?_
        simp (config := sc) (disch := try exact dd) [std, a21, a22]
        done
      · rw [optsT3]
        obtain ⟨v2, hv2, q3⟩ := msgMore m _ hm hf1
        have hm2 := moreS_err hm ((b.take 236).drop 108)
        generalize moreS m ((b.take 236).drop 108) = p at *
        obtain ⟨e2, l2⟩ := p
        dsimp only at hv2 q3 hm2 ⊢
        by_cases hz3 : e2 = 0
        · subst hz3
          rw [if_neg (by decide)]
          have e2 := hv2.z
          subst e2
          have hm3 : rightO l2 = true := by
            rcases hm2 with h | h
            · exact h.2
            · rcases h.1 with h | h <;> exact absurd h (by decide)
          obtain ⟨v3, hv3, q4⟩ := msgMore l2 _ hm3 hf2
          refine ⟨_, hv3, ?_⟩
          refine Holds.by (by kernel_rfl) Tryd.func40 (by kernel_rfl) rfl [] (by simp) (by kernel_rfl) (by kernel_rfl) rfl ?_
          conv in ccs _ => cbv
          simp (config := sc) (disch := try exact dd) [std]
          refine oc q1 ?_
          simp (config := sc) (disch := try exact dd) [std]
          refine oc q2 ?_
          simp (config := sc) (disch := try exact dd) [std, a31, a32]
          refine oc q3 ?_
          simp (config := sc) (disch := try exact dd) [std, a31, a32]
          refine oc q4 ?_
          simp (config := sc) (disch := try exact dd) [std, a31, a32]
          done
        · rw [if_pos hz3]
          obtain ⟨t, u, rfl⟩ := hv2.nz hz3
          refine ⟨_, hv2, ?_⟩
          refine Holds.by (by kernel_rfl) Tryd.func40 (by kernel_rfl) rfl [] (by simp) (by kernel_rfl) (by kernel_rfl) rfl ?_
          conv in ccs _ => cbv
          simp (config := sc) (disch := try exact dd) [std]
          refine oc q1 ?_
          simp (config := sc) (disch := try exact dd) [std]
          refine oc q2 ?_
          simp (config := sc) (disch := try exact dd) [std, a31, a32]
          refine oc q3 ?_
          simp (config := sc) (disch := try exact dd) [std, a31, a32]
          done
  · rw [if_pos h0]
    refine ⟨wrongV e [111, 112, 116, 105, 111, 110, 115], ErrIs.wrong (by omega), ?_⟩
    have q4 := msgWrong e [111, 112, 116, 105, 111, 110, 115]
    refine Holds.by (by kernel_rfl) Tryd.func40 (by kernel_rfl) rfl [] (by simp) (by kernel_rfl) (by kernel_rfl) rfl ?_
    conv in ccs _ => cbv
    simp (config := sc) (disch := try exact dd) [std]
    refine oc q1 ?_
    simp (config := sc) (disch := try exact dd) [std, h0]
    refine oc q4 ?_
    simp (config := sc) (disch := try exact dd) [std]
    done
end Go.Proofs.YtimlalndjfmnbaaDoor
