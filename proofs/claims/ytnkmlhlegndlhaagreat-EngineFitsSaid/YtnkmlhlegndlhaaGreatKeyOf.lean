/- By what a client is known: key.Of and the document's layer 7. -/
import Derived.Test.YtnkmlhlegndlhaaGreatMsgR
import Derived.Test.YtnkmlhlegndlhaaGreatKey
import Derived.Test.YtnkmlhlegndlhaaGreatPut
namespace Go.Proofs.YtnkmlhlegndlhaaGreat
open BoEng Go
set_option maxRecDepth 100000
attribute [-simp] List.map_take List.map_drop List.length_flatMap
set_option linter.unusedSimpArgs false
set_option linter.unusedVariables false
def keyS (m : Msg) : List UInt8 × Int :=
 if rightM m = false then ([], 1) else if 255 < ((findS m.opts 61).getD []).length then ([], 3)
 else if 1 < ((findS m.opts 61).getD []).length then (105 :: (findS m.opts 61).getD [], 0) else if m.hlen = 0 then ([], 5) else (104 :: lowB m.htype :: m.chaddr.take m.hlen.toNat, 0)
theorem rightM_parts {m : Msg} (h : rightM m = true) : (0 ≤ m.hlen ∧ m.hlen ≤ 16) ∧ m.chaddr.length = 16 ∧ rightO m.opts = true ∧ (0 ≤ m.htype ∧ m.htype ≤ 255) := by
 simp only [rightM, Bool.and_eq_true, decide_eq_true_eq] at h
 exact ⟨h.1.1.1.1.1.1.1.1.1.1.1.2, h.1.1.2, h.1.2, h.1.1.1.1.1.1.1.1.1.1.1.1.2⟩
theorem keyOf (m : Msg) (hm : sizedM m) : Holds Tryz.prog 41 [.d m.d] (.tup [.d (.str (keyS m).1), .d (.int .i64 (keyS m).2)]) (fun _ => false) := by
 refine Holds.by (by kernel_rfl) Tryz.func41 (by kernel_rfl) rfl [20001] (by simp) (by kernel_rfl) (by kernel_rfl) rfl ?_
 conv in ccs _ => cbv
 have q1 := msgRight m hm
 have q2 := tlvFind m.opts 61 hm.2
 have hd := fun d h => @findS_sized m.opts 61 d hm.2 h
 have hdl : ((findS m.opts 61).getD []).length ≤ 100000 := by
  cases h : findS m.opts 61 with
  | none => simp
  | some d => exact hd d h
 unfold keyS
 clear hd
 generalize (findS m.opts 61).getD [] = d at *
 cases hr : rightM m with
 | false =>
   rw [hr] at q1
   simp (config := sc) (disch := try exact dd) [std]
   refine oc q1 ?_
   simp (config := sc) (disch := try exact dd) [std]
 | true =>
   rw [hr] at q1
   obtain ⟨⟨h0, h1⟩, hc, _⟩ := rightM_parts hr
   rw [if_neg (by decide)]
   by_cases h2 : (255 : Int) < d.length
   ·rw [if_pos (by omega)]
    simp (config := sc) (disch := try exact dd) [std]
    refine oc q1 ?_
    simp (config := sc) (disch := try exact dd) [std]
    refine oc q2 ?_
    simp (config := sc) (disch := try exact dd) [std, h2]
   ·rw [if_neg (by omega)]
    by_cases h3 : (2 : Int) ≤ d.length
    ·rw [if_pos (by omega)]
     simp (config := sc) (disch := try exact dd) [std]
     refine oc q1 ?_
     simp (config := sc) (disch := try exact dd) [std]
     refine oc q2 ?_
     simp (config := sc) (disch := try exact dd) [std, h2, h3]
    ·rw [if_neg (by omega)]
     by_cases h4 : 0 < m.hlen
     ·rw [if_neg (by omega)]
      obtain ⟨n, hn⟩ := Int.eq_ofNat_of_zero_le h0
      simp (config := sc) (disch := try exact dd) [std]
      refine oc q1 ?_
      simp (config := sc) (disch := try exact dd) [std]
      refine oc q2 ?_
      simp (config := sc) (disch := try exact dd) [std, h2, h3, h4, hn, u8_wrapB]
      done
     ·rw [if_pos (by omega)]
      simp (config := sc) (disch := try exact dd) [std]
      refine oc q1 ?_
      simp (config := sc) (disch := try exact dd) [std]
      refine oc q2 ?_
      simp (config := sc) (disch := try exact dd) [std, h2, h3, h4]
def k7I (m : Msg) (n : Nat) (i : Nat) (S : PS) : Prop :=
 i ≤ n ∧ S.t 1 = .cptr (cells m.d) ∧ S.t 6 = .d (.slice ((104 :: lowB m.htype :: m.chaddr.take i).map byteD)) ∧ S.own (.t 6 0) = true ∧ S.t 7 = .d (.int .i64 i)
theorem ref07Of (m : Msg) (hm : sizedM m) : Holds Tryz.prog 16 [.d m.d] (.tup [.d (.str (keyS m).1), .d (.int .i64 (keyS m).2)]) (fun _ => false) := by
 refine Holds.by (by kernel_rfl) Tryz.func16 (by kernel_rfl) rfl [20001, 39] (by simp) (by kernel_rfl) (by kernel_rfl) rfl ?_
 conv in ccs _ => cbv
 have q1 := ref04Right m hm
 have q2 := ref03Find m.opts 61 hm.2
 have hd := fun d h => @findS_sized m.opts 61 d hm.2 h
 have hdl : ((findS m.opts 61).getD []).length ≤ 100000 := by
  cases h : findS m.opts 61 with
  | none => simp
  | some d => exact hd d h
 unfold keyS
 clear hd
 generalize (findS m.opts 61).getD [] = d at *
 cases hr : rightM m with
 | false =>
   rw [hr] at q1
   simp (config := sc) (disch := try exact dd) [std]
   refine oc q1 ?_
   simp (config := sc) (disch := try exact dd) [std]
 | true =>
   rw [hr] at q1
   obtain ⟨⟨h0, h1⟩, hc, _⟩ := rightM_parts hr
   rw [if_neg (by decide)]
   by_cases h2 : (255 : Int) < d.length
   ·rw [if_pos (by omega)]
    simp (config := sc) (disch := try exact dd) [std]
    refine oc q1 ?_
    simp (config := sc) (disch := try exact dd) [std]
    refine oc q2 ?_
    simp (config := sc) (disch := try exact dd) [std, h2]
   ·rw [if_neg (by omega)]
    by_cases h3 : (1 : Int) < d.length
    ·rw [if_pos (by omega)]
     simp (config := sc) (disch := try exact dd) [std]
     refine oc q1 ?_
     simp (config := sc) (disch := try exact dd) [std]
     refine oc q2 ?_
     simp (config := sc) (disch := try exact dd) [std, h2, h3]
    ·rw [if_neg (by omega)]
     by_cases h4 : m.hlen = 0
     ·rw [if_pos h4]
      simp (config := sc) (disch := try exact dd) [std]
      refine oc q1 ?_
      simp (config := sc) (disch := try exact dd) [std]
      refine oc q2 ?_
      simp (config := sc) (disch := try exact dd) [std, h2, h3, h4]
     ·rw [if_neg h4]
      obtain ⟨n, hn⟩ := Int.eq_ofNat_of_zero_le h0
      simp (config := sc) (disch := try exact dd) [std]
      refine oc q1 ?_
      simp (config := sc) (disch := try exact dd) [std]
      refine oc q2 ?_
      simp (config := sc) (disch := try exact dd) [std, h2, h3, h4, u8_wrapB]
      refine lp (k7I m n) (fun i => n - i) 0 ⟨by omega, by simp (config := sc) (disch := try exact dd) [std], by simp (config := sc) (disch := try exact dd) [std], by simp (config := sc) (disch := try exact dd) [std], by simp (config := sc) (disch := try exact dd) [std]⟩ ?_
      rintro i S ⟨hi, e1, e6, o6, e7⟩
      by_cases hlt : i < n
      ·have k6 : (i : Int) < m.hlen := by omega
       have hcl : i < m.chaddr.length := by omega
       have hti : m.chaddr.take (i + 1) = m.chaddr.take i ++ [m.chaddr[i]] := List.take_succ_eq_append_getElem hcl
       have hnn : nth m.chaddr (i : Int) = m.chaddr[i] := nth_nat hcl
       have hle : (m.chaddr.take i).length ≤ 16 := by simp; omega
       generalize m.chaddr.take i = T0 at *
       simp (config := sc) (disch := try exact dd) [std, e1, e6, o6, e7, k6, hnn]
       exact nxt_of (i + 1) ⟨by omega, by simp (config := sc) (disch := try exact dd) [std, e1], by rw [hti]; simp (config := sc) (disch := try exact dd) [std, e6], by simp (config := sc) (disch := try exact dd) [std, o6], by simp (config := sc) (disch := try exact dd) [std]⟩ (by omega)
      ·have k6 : ¬ (i : Int) < m.hlen := by omega
       have hin : i = n := by omega
       subst hin
       simp (config := sc) (disch := try exact dd) [std, e1, e6, o6, e7, k6, hn]
end Go.Proofs.YtnkmlhlegndlhaaGreat
