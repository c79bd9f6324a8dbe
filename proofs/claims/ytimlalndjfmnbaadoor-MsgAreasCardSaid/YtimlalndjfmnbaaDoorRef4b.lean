/- A message that is read, as the document says. -/
import Derived.Test.YtimlalndjfmnbaaDoorRef4
import Derived.Test.YtimlalndjfmnbaaDoorMsgRd
namespace Go.Proofs.YtimlalndjfmnbaaDoor
open BoEng Go
set_option maxRecDepth 100000
attribute [-simp] List.map_take List.map_drop List.length_flatMap
set_option linter.unusedSimpArgs false
set_option linter.unusedVariables false

theorem vAt_one (b : List UInt8) {i : Nat} (h : i < b.length) : vAt b i 1 = (b[i].toNat : Int) := by
  have e : (b.drop i).take 1 = [b[i]] := by rw [List.drop_eq_getElem_cons h]; rfl
  unfold vAt
  rw [e]
  simp [valB]
theorem vAt_four (b : List UInt8) {i : Nat} (h : i + 3 < b.length) : vAt b i 4 = ((((b[i]'(by omega)).toNat : Int) * 256 + (b[i + 1]'(by omega)).toNat) * 256 + (b[i + 2]'(by omega)).toNat) * 256 + (b[i + 3]'(by omega)).toNat := by
  have e : (b.drop i).take 4 = [b[i]'(by omega), b[i + 1]'(by omega), b[i + 2]'(by omega), b[i + 3]] := by
    rw [List.drop_eq_getElem_cons (by omega), List.drop_eq_getElem_cons (by omega), List.drop_eq_getElem_cons (by omega), List.drop_eq_getElem_cons h]; rfl
  unfold vAt
  rw [e]
  simp [valB]
theorem vAt_cut (b : List UInt8) (i n m : Nat) (h : m = i + n) : vAt b i n = valB ((b.take m).drop i) := by
  unfold vAt
  rw [List.drop_take, h, Nat.add_sub_cancel_left]

set_option maxHeartbeats 4000000 in
theorem ref04Read (b : List UInt8) (hl : b.length ≤ 100000) : Holds Tryd.prog 18 [.d (.slice (b.map byteD))] (.tup [.d (rdM b).2.d, .d (.int .i64 (rdM b).1)]) (fun _ => false) := by
  refine Holds.by (by kernel_rfl) Tryd.func18 (by kernel_rfl) rfl [50054, 50055, 50058, 50059, 50062, 50063, 50066, 50067] (by simp) (by kernel_rfl) (by kernel_rfl) rfl ?_
  conv in ccs _ => cbv
  unfold rdM
  by_cases h1 : b.length < 240
  · rw [if_pos h1]
    have h1' : (b.length : Int) < 240 := by omega
    simp (config := sc) (disch := try exact dd) [std, h1', m0]
    done
  have h1' : ¬ (b.length : Int) < 240 := by omega
  rw [if_neg h1]
  by_cases h2 : 1500 < b.length
  · rw [if_pos h2]
    have h2' : 1500 < (b.length : Int) := by omega
    simp (config := sc) (disch := try exact dd) [std, h1', h2', m0]
    done
  have h2' : ¬ 1500 < (b.length : Int) := by omega
  rw [if_neg h2]
  have h240 : (240 : Int) ≤ b.length := by omega
  have hv4 := vAt_four b (i := 236) (by omega)
  have u0 := vAt_one b (i := 0) (by omega)
  have u1 := vAt_one b (i := 1) (by omega)
  have u2 := vAt_one b (i := 2) (by omega)
  have u3 := vAt_one b (i := 3) (by omega)
  have n0 : nth b (0 : Int) = b[0]'(by omega) := nth_nat (l := b) (i := 0) (by omega)
  have n1 : nth b (1 : Int) = b[1]'(by omega) := nth_nat (l := b) (i := 1) (by omega)
  have n2 : nth b (2 : Int) = b[2]'(by omega) := nth_nat (l := b) (i := 2) (by omega)
  have n3 : nth b (3 : Int) = b[3]'(by omega) := nth_nat (l := b) (i := 3) (by omega)
  have n236 : nth b (236 : Int) = b[236]'(by omega) := nth_nat (l := b) (i := 236) (by omega)
  have n237 : nth b (237 : Int) = b[237]'(by omega) := nth_nat (l := b) (i := 237) (by omega)
  have n238 : nth b (238 : Int) = b[238]'(by omega) := nth_nat (l := b) (i := 238) (by omega)
  have n239 : nth b (239 : Int) = b[239]'(by omega) := nth_nat (l := b) (i := 239) (by omega)
  have w236 := (b[236]'(by omega)).toNat_lt
  have w237 := (b[237]'(by omega)).toNat_lt
  have w238 := (b[238]'(by omega)).toNat_lt
  have w239 := (b[239]'(by omega)).toNat_lt
  have qo := ref04Options b (by omega) (by omega)
  have q0 := ref02Value ((b.take 8).drop 4) (by simp only [List.length_drop, List.length_take]; omega)
  rw [← vAt_cut b 4 4 8 rfl] at q0
  have q1 := ref02Value ((b.take 10).drop 8) (by simp only [List.length_drop, List.length_take]; omega)
  rw [← vAt_cut b 8 2 10 rfl] at q1
  have q2 := ref02Value ((b.take 12).drop 10) (by simp only [List.length_drop, List.length_take]; omega)
  rw [← vAt_cut b 10 2 12 rfl] at q2
  have q3 := ref02Value ((b.take 16).drop 12) (by simp only [List.length_drop, List.length_take]; omega)
  rw [← vAt_cut b 12 4 16 rfl] at q3
  have q4 := ref02Value ((b.take 20).drop 16) (by simp only [List.length_drop, List.length_take]; omega)
  rw [← vAt_cut b 16 4 20 rfl] at q4
  have q5 := ref02Value ((b.take 24).drop 20) (by simp only [List.length_drop, List.length_take]; omega)
  rw [← vAt_cut b 20 4 24 rfl] at q5
  have q6 := ref02Value ((b.take 28).drop 24) (by simp only [List.length_drop, List.length_take]; omega)
  rw [← vAt_cut b 24 4 28 rfl] at q6
  unfold hdM
  generalize (optsS b).2 = os at *
  generalize (optsS b).1 = oe at *
  generalize vAt b 4 4 = v0 at *
  generalize vAt b 8 2 = v1 at *
  generalize vAt b 10 2 = v2 at *
  generalize vAt b 12 4 = v3 at *
  generalize vAt b 16 4 = v4 at *
  generalize vAt b 20 4 = v5 at *
  generalize vAt b 24 4 = v6 at *
  rw [u0, u1, u2, u3, hv4]
  clear hv4 u0 u1 u2 u3
  generalize b[0]'(by omega) = b0 at *
  generalize b[1]'(by omega) = b1 at *
  generalize b[2]'(by omega) = b2 at *
  generalize b[3]'(by omega) = b3 at *
  generalize b[236]'(by omega) = b236 at *
  generalize b[237]'(by omega) = b237 at *
  generalize b[238]'(by omega) = b238 at *
  generalize b[239]'(by omega) = b239 at *
  by_cases hc : b236.toNat = 99 ∧ b237.toNat = 130 ∧ b238.toNat = 83 ∧ b239.toNat = 99
  · obtain ⟨c1, c2, c3, c4⟩ := hc
    by_cases h4 : 16 < (b2.toNat : Int)
    · rw [if_pos (.inr h4)]
      simp (config := sc) (disch := try exact dd) [std, h1', h2', n2, n236, n237, n238, n239, c1, c2, c3, c4, h4, m0]
      done
    · rw [if_neg (by rw [c1, c2, c3, c4]; intro h; rcases h with h | h; exact h rfl; exact h4 h)]
      simp (config := sc) (disch := try exact dd) [std, h1', h2', n2, n236, n237, n238, n239, c1, c2, c3, c4, h4]
      refine oc qo ?_
      by_cases h5 : oe = 0
      · subst h5
        rw [if_pos rfl]
        simp (config := sc) (disch := try exact dd) [std, n0, n1, n2, n3]
        refine oc q0 ?_
        simp (config := sc) (disch := try exact dd) [std]
        refine oc q1 ?_
        simp (config := sc) (disch := try exact dd) [std]
        refine oc q2 ?_
        simp (config := sc) (disch := try exact dd) [std]
        refine oc q3 ?_
        simp (config := sc) (disch := try exact dd) [std]
        refine oc q4 ?_
        simp (config := sc) (disch := try exact dd) [std]
        refine oc q5 ?_
        simp (config := sc) (disch := try exact dd) [std]
        refine oc q6 ?_
        simp (config := sc) (disch := try exact dd) [std]
        done
      · rw [if_neg h5]
        simp (config := sc) (disch := try exact dd) [std, h5, m0]
        done
  · rw [if_pos (.inl (by omega))]
    by_cases c1 : b236.toNat = 99
    · by_cases c2 : b237.toNat = 130
      · by_cases c3 : b238.toNat = 83
        · have c4 : ¬ (b239.toNat : Int) = 99 := fun h => hc ⟨c1, c2, c3, by omega⟩
          simp (config := sc) (disch := try exact dd) [std, h1', h2', n2, n236, n237, n238, n239, c1, c2, c3, c4, m0]
          done
        · have c3' : ¬ (b238.toNat : Int) = 83 := by omega
          simp (config := sc) (disch := try exact dd) [std, h1', h2', n2, n236, n237, n238, n239, c1, c2, c3', m0]
          done
      · have c2' : ¬ (b237.toNat : Int) = 130 := by omega
        simp (config := sc) (disch := try exact dd) [std, h1', h2', n2, n236, n237, n238, n239, c1, c2', m0]
        done
    · have c1' : ¬ (b236.toNat : Int) = 99 := by omega
      simp (config := sc) (disch := try exact dd) [std, h1', h2', n2, n236, n237, n238, n239, c1', m0]
      done
end Go.Proofs.YtimlalndjfmnbaaDoor
