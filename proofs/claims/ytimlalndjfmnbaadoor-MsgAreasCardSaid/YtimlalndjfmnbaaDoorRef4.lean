/- The options of a message's bytes, as the document says. -/
import Derived.Test.YtimlalndjfmnbaaDoorRef3
import Derived.Test.YtimlalndjfmnbaaDoorMsgP
import Derived.Test.YtimlalndjfmnbaaDoorMsgR
namespace Go.Proofs.YtimlalndjfmnbaaDoor
open BoEng Go
set_option maxRecDepth 100000
attribute [-simp] List.map_take List.map_drop List.length_flatMap
set_option linter.unusedSimpArgs false
set_option linter.unusedVariables false

def r4wI (l : List Opt) (c : Int) (i : Nat) (S : PS) : Prop :=
  i ≤ l.length ∧ S.t 0 = .d (.slice (l.map Opt.d)) ∧ S.t 1 = .d (.int .i64 c) ∧ S.t 6 = .d (.int .i64 i) ∧ S.t 5 = .d (.slice ((withoutS (l.take i) c).map Opt.d)) ∧ S.own (.t 5 0) = true
theorem ref04without (l : List Opt) (c : Int) (hl : sized l) : Holds Tryd.prog 64 [.d (.slice (l.map Opt.d)), .d (.int .i64 c)] (.d (.slice ((withoutS l c).map Opt.d))) (fun _ => false) := by
  refine Holds.by (by kernel_rfl) Tryd.func64 (by kernel_rfl) rfl [20] (by simp) (by kernel_rfl) (by kernel_rfl) rfl ?_
  conv in ccs _ => cbv
  have hs := hl.1
  simp (config := sc) (disch := try exact dd) [std]
  refine lp (r4wI l c) (fun i => l.length - i) 0 ⟨by omega, by simp (config := sc) (disch := try exact dd) [std], by simp (config := sc) (disch := try exact dd) [std], by simp (config := sc) (disch := try exact dd) [std], by simp (config := sc) (disch := try exact dd) [std, withoutS], by simp (config := sc) (disch := try exact dd) [std]⟩ ?_
  rintro i S ⟨hi, e0, e1, e6, e5, o5⟩
  by_cases hlt : i < l.length
  · have k6 : (i : Int) < l.length := by omega
    have hn : nth l (i : Int) = l[i] := nth_nat hlt
    have hwl : (withoutS (l.take i) c).length ≤ 100000 := by
      have := List.length_filter_le (fun o : Opt => decide (o.code ≠ c)) (l.take i)
      simp only [List.length_take] at this
      unfold withoutS
      omega
    by_cases hc : l[i].code = c
    · have ht : withoutS (l.take (i + 1)) c = withoutS (l.take i) c := by
        unfold withoutS
        rw [List.take_succ_eq_append_getElem hlt, List.filter_append]
        simp [hc]
      simp (config := sc) (disch := try exact dd) [std, e0, e1, e6, e5, o5, k6, hn, hc]
      exact nxt_of (i + 1) ⟨by omega, by simp (config := sc) (disch := try exact dd) [std, e0], by simp (config := sc) (disch := try exact dd) [std, e1], by simp (config := sc) (disch := try exact dd) [std], by rw [ht]; simp (config := sc) (disch := try exact dd) [std, e5], by simp (config := sc) (disch := try exact dd) [std, o5]⟩ (by omega)
    · have ht : withoutS (l.take (i + 1)) c = withoutS (l.take i) c ++ [l[i]] := by
        unfold withoutS
        rw [List.take_succ_eq_append_getElem hlt, List.filter_append]
        simp [hc]
      simp (config := sc) (disch := try exact dd) [std, e0, e1, e6, e5, o5, k6, hn, hc]
      exact nxt_of (i + 1) ⟨by omega, by simp (config := sc) (disch := try exact dd) [std, e0], by simp (config := sc) (disch := try exact dd) [std, e1], by simp (config := sc) (disch := try exact dd) [std], by rw [ht]; simp (config := sc) (disch := try exact dd) [std, e5], by simp (config := sc) (disch := try exact dd) [std, o5]⟩ (by omega)
  · have k6 : ¬ (i : Int) < l.length := by omega
    have ht : l.take i = l := List.take_of_length_le (by omega)
    rw [ht] at e5
    simp (config := sc) (disch := try exact dd) [std, e0, e1, e6, e5, o5, k6]
    done

theorem ref04joined (l : List Opt) (a : List UInt8) (hl : rightO l = true) (ha : a.length ≤ 100000) : Holds Tryd.prog 65 [.d (.slice (l.map Opt.d)), .d (.slice (a.map byteD))] (.tup [.d (.slice ((moreS l a).2.map Opt.d)), .d (.int .i64 (moreS l a).1)]) (fun _ => false) := by
  have q1 := ref03Read a ha
  have hz := rdS_sized a
  have hz0 : sized l := by
    obtain ⟨h1, h2⟩ := right_small hl
    exact ⟨by omega, fun o ho => by have := h2 o ho; omega⟩
  unfold moreS
  generalize rdS a = p at *
  obtain ⟨e, m⟩ := p
  dsimp only at q1 hz ⊢
  have q2 := ref03Has m 52 hz
  have hh := has_find m 52
  by_cases h0 : e = 0
  · subst h0
    rw [if_neg (by decide)]
    cases hf : findS m 52 with
    | some d =>
      rw [hf] at hh
      have h52 : ¬ hasN m 52 = 0 := by
        intro h
        rw [h] at hh
        simp at hh
      have hp := (hasN_le m 52).1
      have h53 : 0 < hasN m 52 := by omega
      rw [Option.isSome_some, if_pos rfl]
      refine Holds.by (by kernel_rfl) Tryd.func65 (by kernel_rfl) rfl [] (by simp) (by kernel_rfl) (by kernel_rfl) rfl ?_
      conv in ccs _ => cbv
      simp (config := sc) (disch := try exact dd) [std]
      refine oc q1 ?_
      simp (config := sc) (disch := try exact dd) [std]
      refine oc q2 ?_
      simp (config := sc) (disch := try exact dd) [std, h53]
      done
    | none =>
      rw [hf] at hh
      have h52 : hasN m 52 = 0 := by simpa using hh.symm
      rw [h52] at q2
      rw [Option.isSome_none, if_neg (by decide)]
      have q3 := ref03Join l m hz0 hz
      refine Holds.by (by kernel_rfl) Tryd.func65 (by kernel_rfl) rfl [] (by simp) (by kernel_rfl) (by kernel_rfl) rfl ?_
      conv in ccs _ => cbv
      simp (config := sc) (disch := try exact dd) [std]
      refine oc q1 ?_
      simp (config := sc) (disch := try exact dd) [std]
      refine oc q2 ?_
      simp (config := sc) (disch := try exact dd) [std]
      refine oc q3 ?_
      simp (config := sc) (disch := try exact dd) [std]
      done
  · rw [if_pos h0]
    refine Holds.by (by kernel_rfl) Tryd.func65 (by kernel_rfl) rfl [] (by simp) (by kernel_rfl) (by kernel_rfl) rfl ?_
    conv in ccs _ => cbv
    simp (config := sc) (disch := try exact dd) [std]
    refine oc q1 ?_
    simp (config := sc) (disch := try exact dd) [std, h0]
    done

theorem takeS_n {l : List Opt} (h : findS l 52 = none) : takeS l = (0, l, 0) := by unfold takeS; rw [h]
theorem takeS_0 {l : List Opt} (h : findS l 52 = some []) : takeS l = (2, [], 0) := by unfold takeS; rw [h]
theorem takeS_2 {l : List Opt} {x y : UInt8} {r : List UInt8} (h : findS l 52 = some (x :: y :: r)) : takeS l = (2, [], 0) := by unfold takeS; rw [h]
theorem takeS_1 {l : List Opt} {x : UInt8} (h : findS l 52 = some [x]) : takeS l = if 1 ≤ x.toNat ∧ x.toNat ≤ 3 then (0, withoutS l 52, (x.toNat : Int)) else (2, [], 0) := by unfold takeS; rw [h]

theorem ref04Options (b : List UInt8) (h240 : 240 ≤ b.length) (hb : b.length ≤ 100000) : Holds Tryd.prog 42 [.d (.slice (b.map byteD))] (.tup [.d (.slice ((optsS b).2.map Opt.d)), .d (.int .i64 (optsS b).1)]) (fun _ => false) := by
  have q1 := ref03Read (b.drop 240) (by simp; omega)
  have he := rdS_err (b.drop 240)
  have hz := rdS_sized (b.drop 240)
  have hf1 : ((b.take 236).drop 108).length ≤ 100000 := by simp only [List.length_drop, List.length_take]; omega
  have hf2 : ((b.take 108).drop 44).length ≤ 100000 := by simp only [List.length_drop, List.length_take]; omega
  have hlen : (240 : Int) ≤ b.length := by omega
  unfold optsS
  generalize rdS (b.drop 240) = p at *
  obtain ⟨e, l⟩ := p
  dsimp only at q1 he hz ⊢
  by_cases h0 : e = 0
  · subst h0
    have hl : rightO l = true := by
      rcases he with h | h
      · exact h.2
      · rcases h.1 with h | h <;> exact absurd h (by decide)
    rw [if_neg (by decide)]
    have q2 := ref03Find l 52 hz
    have q3 := ref04without l 52 hz
    cases hf : findS l 52 with
    | none =>
      rw [hf] at q2
      rw [takeS_n hf]
      dsimp only
      rw [if_neg (by decide), optsT0]
      refine Holds.by (by kernel_rfl) Tryd.func42 (by kernel_rfl) rfl [] (by simp) (by kernel_rfl) (by kernel_rfl) rfl ?_
      conv in ccs _ => cbv
      simp (config := sc) (disch := try exact dd) [std]
      refine oc q1 ?_
      simp (config := sc) (disch := try exact dd) [std]
      refine oc q2 ?_
      simp (config := sc) (disch := try exact dd) [std]
      done
    | some d =>
      rw [hf] at q2
      match d, q2, hf with
      | [], q2, hf =>
        rw [takeS_0 hf]
        dsimp only
        rw [if_pos (by decide)]
        refine Holds.by (by kernel_rfl) Tryd.func42 (by kernel_rfl) rfl [] (by simp) (by kernel_rfl) (by kernel_rfl) rfl ?_
        conv in ccs _ => cbv
        simp (config := sc) (disch := try exact dd) [std]
        refine oc q1 ?_
        simp (config := sc) (disch := try exact dd) [std]
        refine oc q2 ?_
        simp (config := sc) (disch := try exact dd) [std]
        done
      | x :: y :: r, q2, hf =>
        rw [takeS_2 hf]
        dsimp only
        rw [if_pos (by decide)]
        have k1 : ¬ (r.length : Int) + 1 + 1 = 1 := by omega
        refine Holds.by (by kernel_rfl) Tryd.func42 (by kernel_rfl) rfl [] (by simp) (by kernel_rfl) (by kernel_rfl) rfl ?_
        conv in ccs _ => cbv
        simp (config := sc) (disch := try exact dd) [std]
        refine oc q1 ?_
        simp (config := sc) (disch := try exact dd) [std]
        refine oc q2 ?_
        simp (config := sc) (disch := try exact dd) [std, k1]
        done
      | [x], q2, hf =>
        have hx := x.toNat_lt
        have hwr := without_right (c := 52) hl
        rw [takeS_1 hf]
        by_cases h13 : 1 ≤ x.toNat ∧ x.toNat ≤ 3
        · rw [if_pos h13]
          dsimp only
          rw [if_neg (by decide)]
          have k0 : ¬ (x.toNat : Int) = 0 := by omega
          have k3 : ¬ 3 < (x.toNat : Int) := by omega
          generalize withoutS l 52 = m at *
          have q4 := ref04joined m _ hwr hf1
          have q5 := ref04joined m _ hwr hf2
          have h123 : x.toNat = 1 ∨ x.toNat = 2 ∨ x.toNat = 3 := by omega
          rcases h123 with h | h | h
          · have hx1 : ((x.toNat : Nat) : Int) = 1 := by omega
            rw [hx1]
            show Holds _ _ _ (.tup [.d (.slice ((optsT m 1 b).2.map Opt.d)), .d (.int .i64 (optsT m 1 b).1)]) _
            rw [optsT1]
            have hm2 := moreS_err hwr ((b.take 236).drop 108)
            generalize moreS m ((b.take 236).drop 108) = p at *
            obtain ⟨e2, l2⟩ := p
            dsimp only at q4 hm2 ⊢
            have hi : (x.toNat : Int) = 1 := by omega
            by_cases h9 : e2 = 0
            · subst h9
              refine Holds.by (by kernel_rfl) Tryd.func42 (by kernel_rfl) rfl [] (by simp) (by kernel_rfl) (by kernel_rfl) rfl ?_
              conv in ccs _ => cbv
              simp (config := sc) (disch := try exact dd) [std]
              refine oc q1 ?_
              simp (config := sc) (disch := try exact dd) [std]
              refine oc q2 ?_
              simp (config := sc) (disch := try exact dd) [std, hi]
              refine oc q3 ?_
              simp (config := sc) (disch := try exact dd) [std, hi]
              refine oc q4 ?_
              simp (config := sc) (disch := try exact dd) [std, hi]
              done
            · have hl2 : l2 = [] := by
                rcases hm2 with h | h
                · exact absurd h.1 h9
                · exact h.2
              subst hl2
              refine Holds.by (by kernel_rfl) Tryd.func42 (by kernel_rfl) rfl [] (by simp) (by kernel_rfl) (by kernel_rfl) rfl ?_
              conv in ccs _ => cbv
              simp (config := sc) (disch := try exact dd) [std]
              refine oc q1 ?_
              simp (config := sc) (disch := try exact dd) [std]
              refine oc q2 ?_
              simp (config := sc) (disch := try exact dd) [std, hi]
              refine oc q3 ?_
              simp (config := sc) (disch := try exact dd) [std, hi]
              refine oc q4 ?_
              simp (config := sc) (disch := try exact dd) [std, hi, h9]
              done
          · have hx2 : ((x.toNat : Nat) : Int) = 2 := by omega
            rw [hx2]
            show Holds _ _ _ (.tup [.d (.slice ((optsT m 2 b).2.map Opt.d)), .d (.int .i64 (optsT m 2 b).1)]) _
            rw [optsT2]
            have hi : (x.toNat : Int) = 2 := by omega
            refine Holds.by (by kernel_rfl) Tryd.func42 (by kernel_rfl) rfl [] (by simp) (by kernel_rfl) (by kernel_rfl) rfl ?_
            conv in ccs _ => cbv
            simp (config := sc) (disch := try exact dd) [std]
            refine oc q1 ?_
            simp (config := sc) (disch := try exact dd) [std]
            refine oc q2 ?_
            simp (config := sc) (disch := try exact dd) [std, hi]
            refine oc q3 ?_
            simp (config := sc) (disch := try exact dd) [std, hi]
            refine oc q5 ?_
            simp (config := sc) (disch := try exact dd) [std, hi]
            done
          · have hx3 : ((x.toNat : Nat) : Int) = 3 := by omega
            rw [hx3]
            show Holds _ _ _ (.tup [.d (.slice ((optsT m 3 b).2.map Opt.d)), .d (.int .i64 (optsT m 3 b).1)]) _
            rw [optsT3]
            have hm2 := moreS_err hwr ((b.take 236).drop 108)
            generalize moreS m ((b.take 236).drop 108) = p at *
            obtain ⟨e2, l2⟩ := p
            dsimp only at q4 hm2 ⊢
            have hi : (x.toNat : Int) = 3 := by omega
            by_cases h9 : e2 = 0
            · subst h9
              have hm3 : rightO l2 = true := by
                rcases hm2 with h | h
                · exact h.2
                · rcases h.1 with h | h <;> exact absurd h (by decide)
              have q6 := ref04joined l2 _ hm3 hf2
              rw [if_neg (by decide)]
              refine Holds.by (by kernel_rfl) Tryd.func42 (by kernel_rfl) rfl [] (by simp) (by kernel_rfl) (by kernel_rfl) rfl ?_
              conv in ccs _ => cbv
              simp (config := sc) (disch := try exact dd) [std]
              refine oc q1 ?_
              simp (config := sc) (disch := try exact dd) [std]
              refine oc q2 ?_
              simp (config := sc) (disch := try exact dd) [std, hi]
              refine oc q3 ?_
              simp (config := sc) (disch := try exact dd) [std, hi]
              refine oc q4 ?_
              simp (config := sc) (disch := try exact dd) [std, hi]
              refine oc q6 ?_
              simp (config := sc) (disch := try exact dd) [std, hi]
              done
            · have hl2 : l2 = [] := by
                rcases hm2 with h | h
                · exact absurd h.1 h9
                · exact h.2
              subst hl2
              rw [if_pos h9]
              refine Holds.by (by kernel_rfl) Tryd.func42 (by kernel_rfl) rfl [] (by simp) (by kernel_rfl) (by kernel_rfl) rfl ?_
              conv in ccs _ => cbv
              simp (config := sc) (disch := try exact dd) [std]
              refine oc q1 ?_
              simp (config := sc) (disch := try exact dd) [std]
              refine oc q2 ?_
              simp (config := sc) (disch := try exact dd) [std, hi]
              refine oc q3 ?_
              simp (config := sc) (disch := try exact dd) [std, hi]
              refine oc q4 ?_
              simp (config := sc) (disch := try exact dd) [std, hi, h9]
              done
        · rw [if_neg h13]
          dsimp only
          rw [if_pos (by decide)]
          by_cases k1 : (x.toNat : Int) = 0
          · skip
            refine Holds.by (by kernel_rfl) Tryd.func42 (by kernel_rfl) rfl [] (by simp) (by kernel_rfl) (by kernel_rfl) rfl ?_
            conv in ccs _ => cbv
            simp (config := sc) (disch := try exact dd) [std]
            refine oc q1 ?_
            simp (config := sc) (disch := try exact dd) [std]
            refine oc q2 ?_
            simp (config := sc) (disch := try exact dd) [std, k1]
            done
          · have k2 : 3 < (x.toNat : Int) := by omega
            refine Holds.by (by kernel_rfl) Tryd.func42 (by kernel_rfl) rfl [] (by simp) (by kernel_rfl) (by kernel_rfl) rfl ?_
            conv in ccs _ => cbv
            simp (config := sc) (disch := try exact dd) [std]
            refine oc q1 ?_
            simp (config := sc) (disch := try exact dd) [std]
            refine oc q2 ?_
            simp (config := sc) (disch := try exact dd) [std, k1, k2]
            done
  · rw [if_pos h0]
    refine Holds.by (by kernel_rfl) Tryd.func42 (by kernel_rfl) rfl [] (by simp) (by kernel_rfl) (by kernel_rfl) rfl ?_
    conv in ccs _ => cbv
    simp (config := sc) (disch := try exact dd) [std]
    refine oc q1 ?_
    simp (config := sc) (disch := try exact dd) [std, h0]
    done
end Go.Proofs.YtimlalndjfmnbaaDoor
