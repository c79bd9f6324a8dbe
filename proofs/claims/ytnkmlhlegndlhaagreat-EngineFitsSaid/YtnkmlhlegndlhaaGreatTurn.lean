/- What becomes of a message: the program's engine. -/
import Derived.Test.YtnkmlhlegndlhaaGreatEngP
namespace Go.Proofs.YtnkmlhlegndlhaaGreat
open BoEng Go
set_option maxRecDepth 100000
attribute [-simp] List.map_take List.map_drop List.length_flatMap
set_option linter.unusedSimpArgs false
set_option linter.unusedVariables false
theorem turnC_eq (u : TurnR) : turnC u = [.int .i64 u.c.server, .int .i64 u.c.probation, .slice (u.c.nets.map Net.d), .slice (u.t.map LeaseR.d), .int .i64 u.m.op, .int .i64 u.m.htype, .int .i64 u.m.hlen, .int .i64 u.m.hops, .int .i64 u.m.xid, .int .i64 u.m.secs, .int .i64 u.m.flags,
 .int .i64 u.m.ci, .int .i64 u.m.yi, .int .i64 u.m.si, .int .i64 u.m.gi, .slice (u.m.chaddr.map byteD), .slice (u.m.opts.map Opt.d), .str u.k, .int .i64 u.net, .int .i64 u.sub, .int .i64 u.now] := rfl
theorem destOf (m : Msg) (kind yi : Int) : Holds Tryz.prog 145 [.d m.d, .d (.int .i64 kind), .d (.int .i64 yi)] (.d (destR m kind yi).d) (fun _ => false) := by
 refine Holds.by (by kernel_rfl) Tryz.func145 (by kernel_rfl) rfl [] (by simp) (by kernel_rfl) (by kernel_rfl) rfl ?_
 conv in ccs _ => cbv
 by_cases h1 : m.gi = 0
 ·by_cases h2 : kind = 6
  ·simp (config := sc) (disch := try exact dd) [std, h1, h2, destR]
  ·by_cases h3 : m.ci = 0
   ·by_cases h4 : 32768 ≤ m.flags
    ·by_cases h5 : m.flags ≤ 65535
     ·have h6 : m.flags < 65536 := by omega
      simp (config := sc) (disch := try exact dd) [std, h1, h2, h3, h4, h5, h6, destR]
     ·have h6 : ¬ m.flags < 65536 := by omega
      simp (config := sc) (disch := try exact dd) [std, h1, h2, h3, h4, h5, h6, destR]
    ·simp (config := sc) (disch := try exact dd) [std, h1, h2, h3, h4, destR]
   ·simp (config := sc) (disch := try exact dd) [std, h1, h2, h3, destR]
 ·simp (config := sc) (disch := try exact dd) [std, h1, destR]
theorem ref17Of (m : Msg) (kind yi : Int) : Holds Tryz.prog 111 [.d m.d, .d (.int .i64 kind), .d (.int .i64 yi)] (.d (destR m kind yi).d) (fun _ => false) := by
 refine Holds.by (by kernel_rfl) Tryz.func111 (by kernel_rfl) rfl [] (by simp) (by kernel_rfl) (by kernel_rfl) rfl ?_
 conv in ccs _ => cbv
 by_cases h1 : m.gi = 0
 ·by_cases h2 : kind = 6
  ·simp (config := sc) (disch := try exact dd) [std, h1, h2, destR]
  ·by_cases h3 : m.ci = 0
   ·by_cases h4 : 32768 ≤ m.flags
    ·by_cases h5 : m.flags ≤ 65535
     ·simp (config := sc) (disch := try exact dd) [std, h1, h2, h3, h4, h5, destR]
     ·simp (config := sc) (disch := try exact dd) [std, h1, h2, h3, h4, h5, destR]
    ·simp (config := sc) (disch := try exact dd) [std, h1, h2, h3, h4, destR]
   ·simp (config := sc) (disch := try exact dd) [std, h1, h2, h3, destR]
 ·simp (config := sc) (disch := try exact dd) [std, h1, destR]
theorem turnWanted (u : TurnR) (ok : TOk u) : Holds Tryz.prog 97 [.cptr (turnC u)] (.d (.int .i64 (wantU u))) (fun _ => false) := by
 refine Holds.by (by kernel_rfl) Tryz.func97 (by kernel_rfl) rfl [] (by simp) (by kernel_rfl) (by kernel_rfl) rfl ?_
 conv in ccs _ => cbv
 have q := optsNumber u.m.opts 50 ok.hm.2
 unfold wantU
 rw [turnC_eq]
 generalize (numS u.m.opts 50).getD 0 = v at *
 generalize (numS u.m.opts 50).isSome = b at *
 simp (config := sc) (disch := try exact dd) [std]
 refine oc q ?_
 simp (config := sc) (disch := try exact dd) [std]
theorem turnIn (u : TurnR) (ok : TOk u) (a : Int) : Holds Tryz.prog 102 [.cptr (turnC u), .d (.int .i64 a)] (.d (.bool (inN u.c u.net a))) (fun _ => false) := by
 refine Holds.by (by kernel_rfl) Tryz.func102 (by kernel_rfl) rfl [] (by simp) (by kernel_rfl) (by kernel_rfl) rfl ?_
 conv in ccs _ => cbv
 have q := confFind u.c a ok.hc
 unfold inN
 rw [turnC_eq]
 cases h : findC u.c a with
 | none =>
   rw [h, foundD_n] at q
   simp (config := sc) (disch := try exact dd) [std]
   refine oc q ?_
   simp (config := sc) (disch := try exact dd) [std]
 | some x =>
   rw [h, foundD_s] at q
   simp (config := sc) (disch := try exact dd) [std]
   refine oc q ?_
   simp (config := sc) (disch := try exact dd) [std]
theorem turnEnd (u : TurnR) (ok : TOk u) (time : Int) (ht : 0 ≤ time ∧ time ≤ 4294967295) : Holds Tryz.prog 106 [.cptr (turnC u), .d (.int .i64 time)] (.d (.int .i64 (endS u.now time))) (fun _ => false) := by
 refine Holds.by (by kernel_rfl) Tryz.func106 (by kernel_rfl) rfl [] (by simp) (by kernel_rfl) (by kernel_rfl) rfl ?_
 conv in ccs _ => cbv
 have hn := ok.now
 have he : (if (1125899906842624 : Int) < u.now + time then (1125899906842624 : Int) else u.now + time) = endS u.now time := by
  unfold endS
  split <;> omega
 rw [turnC_eq]
 simp (config := sc) (disch := try exact dd) [std, he]
theorem turnSend (u : TurnR) (ok : TOk u) (kind a : Int) (hk : kindOk kind = true) (ha : rightA a = true) (keep : Bool) (l : LeaseR) :
  Holds Tryz.prog 98 [.cptr (turnC u), .d (.int .i64 kind), .d (.int .i64 a), .d (.bool keep), .d l.d] (.d (sentR u kind a keep l).d) (fun _ => false) := by
 refine Holds.by (by kernel_rfl) Tryz.func98 (by kernel_rfl) rfl [20009, 50053, 50059, 50082, 50087] (by simp) (by kernel_rfl) (by kernel_rfl) rfl ?_
 conv in ccs _ => cbv
 have q1 := confFind u.c a ok.hc
 have hw : ∃ net sub s, subC u.c net sub = some s ∧ subOf u.c u.s kind a = s ∧ ((findC u.c a = none ∧ net = u.net ∧ sub = u.sub ∧ True) ∨ (∃ x, findC u.c a = some x ∧ ¬ a = 0 ∧ ¬ kind = 6 ∧ net = x.net ∧ sub = x.sub) ∨
   (∃ x, findC u.c a = some x ∧ a = 0 ∧ True ∧ net = u.net ∧ sub = u.sub) ∨ (∃ x, findC u.c a = some x ∧ ¬ a = 0 ∧ kind = 6 ∧ net = u.net ∧ sub = u.sub)) := by
  cases h : findC u.c a with
  | none => exact ⟨u.net, u.sub, u.s, ok.sp, by simp [subOf, h], .inl ⟨rfl, rfl, rfl, trivial⟩⟩
  | some x =>
    by_cases h1 : a = 0
    ·exact ⟨u.net, u.sub, u.s, ok.sp, by simp [subOf, h1], .inr (.inr (.inl ⟨x, rfl, h1, trivial, rfl, rfl⟩))⟩
    ·by_cases h2 : kind = 6
     ·exact ⟨u.net, u.sub, u.s, ok.sp, by simp [subOf, h2], .inr (.inr (.inr ⟨x, rfl, h1, h2, rfl, rfl⟩))⟩
     ·exact ⟨x.net, x.sub, x.s, find_subC h, by simp [subOf, h, h1, h2], .inr (.inl ⟨x, rfl, h1, h2, rfl, rfl⟩)⟩
 obtain ⟨net, sub, s, hs, hso, hw⟩ := hw
 have hf := ok.fair hk ha hs
 have q2 := replyMake u.c net sub u.m kind a ok.hc ok.hm hf hs
 obtain ⟨hr, hl⟩ := make_right hf hs
 have q3 := msgWrite (makeM u.c s u.m kind a) (make_sized hr)
 have hwm : (writeM (makeM u.c s u.m kind a)).2 = 0 := by
  unfold writeM
  rw [hr, if_neg (by decide), if_neg (by omega)]
 rw [hwm] at q3
 have hyi : (makeM u.c s u.m kind a).yi = if kind = 6 then 0 else a := rfl
 unfold sentR
 rw [hso, ← hyi]
 clear hr hl hwm hyi hso hf hk ha
 generalize makeM u.c s u.m kind a = r at *
 have q4 := destOf u.m kind r.yi
 generalize destR u.m kind r.yi = dst at *
 rw [turnC_eq]
 rcases hw with ⟨hfc, rfl, rfl, h1⟩ | ⟨x, hfc, h1, h2, rfl, rfl⟩ | ⟨x, hfc, rfl, h1, rfl, rfl⟩ | ⟨x, hfc, h1, rfl, rfl, rfl⟩
 ·rw [hfc, foundD_n] at q1
  simp (config := sc) (disch := try exact dd) [std]
  refine oc q1 ?_
  simp (config := sc) (disch := try exact dd) [std]
  refine oc q2 ?_
  simp (config := sc) (disch := try exact dd) [std]
  refine oc q3 ?_
  simp (config := sc) (disch := try exact dd) [std]
  refine oc q4 ?_
  simp (config := { sc with maxSteps := 1000000 }) (disch := try exact dd) [std]
 ·rw [hfc, foundD_s] at q1
  simp (config := sc) (disch := try exact dd) [std]
  refine oc q1 ?_
  simp (config := sc) (disch := try exact dd) [std, h1, h2]
  refine oc q2 ?_
  simp (config := sc) (disch := try exact dd) [std, h1, h2]
  refine oc q3 ?_
  simp (config := sc) (disch := try exact dd) [std, h1, h2]
  refine oc q4 ?_
  simp (config := { sc with maxSteps := 1000000 }) (disch := try exact dd) [std, h1, h2]
 ·rw [hfc, foundD_s] at q1
  simp (config := sc) (disch := try exact dd) [std]
  refine oc q1 ?_
  simp (config := sc) (disch := try exact dd) [std]
  refine oc q2 ?_
  simp (config := sc) (disch := try exact dd) [std]
  refine oc q3 ?_
  simp (config := sc) (disch := try exact dd) [std]
  refine oc q4 ?_
  simp (config := { sc with maxSteps := 1000000 }) (disch := try exact dd) [std]
 ·rw [hfc, foundD_s] at q1
  simp (config := sc) (disch := try exact dd) [std]
  refine oc q1 ?_
  simp (config := sc) (disch := try exact dd) [std, h1]
  refine oc q2 ?_
  simp (config := sc) (disch := try exact dd) [std, h1]
  refine oc q3 ?_
  simp (config := sc) (disch := try exact dd) [std, h1]
  refine oc q4 ?_
  simp (config := { sc with maxSteps := 1000000 }) (disch := try exact dd) [std, h1]
end Go.Proofs.YtnkmlhlegndlhaaGreat
