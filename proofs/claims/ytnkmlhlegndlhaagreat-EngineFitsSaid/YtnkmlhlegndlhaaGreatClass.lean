/- What a message is about: class and the document's layer 16. -/
import Derived.Test.YtnkmlhlegndlhaaGreatOpts
import Derived.Test.YtnkmlhlegndlhaaGreatMsgR
namespace Go.Proofs.YtnkmlhlegndlhaaGreat
open BoEng Go
set_option maxRecDepth 100000
attribute [-simp] List.map_take List.map_drop List.length_flatMap
set_option linter.unusedSimpArgs false
set_option linter.unusedVariables false
def foreignS (m : Msg) (server : Int) : Bool := (numS m.opts 54).isSome && !decide ((numS m.opts 54).getD 0 = server)
theorem classForeign (m : Msg) (server : Int) (hm : sizedM m) : Holds Tryz.prog 40 [.d m.d, .d (.int .i64 server)] (.d (.bool (foreignS m server))) (fun _ => false) := by
 refine Holds.by (by kernel_rfl) Tryz.func40 (by kernel_rfl) rfl [20002] (by simp) (by kernel_rfl) (by kernel_rfl) rfl ?_
 conv in ccs _ => cbv
 have q := optsNumber m.opts 54 hm.2
 unfold foreignS
 generalize (numS m.opts 54).getD 0 = v at *
 generalize (numS m.opts 54).isSome = b at *
 cases b with
 | false =>
   simp (config := sc) (disch := try exact dd) [std]
   refine oc q ?_
   simp (config := sc) (disch := try exact dd) [std]
 | true =>
   by_cases h : v = server
   ·simp (config := sc) (disch := try exact dd) [std]
    refine oc q ?_
    simp (config := sc) (disch := try exact dd) [std, h]
   ·simp (config := sc) (disch := try exact dd) [std]
    refine oc q ?_
    simp (config := sc) (disch := try exact dd) [std, h]
theorem ref16Foreign (m : Msg) (server : Int) (hm : sizedM m) : Holds Tryz.prog 25 [.d m.d, .d (.int .i64 server)] (.d (.bool (foreignS m server))) (fun _ => false) := by
 refine Holds.by (by kernel_rfl) Tryz.func25 (by kernel_rfl) rfl [20002] (by simp) (by kernel_rfl) (by kernel_rfl) rfl ?_
 conv in ccs _ => cbv
 have q := ref05Number m.opts 54 hm.2
 unfold foreignS
 generalize (numS m.opts 54).getD 0 = v at *
 generalize (numS m.opts 54).isSome = b at *
 cases b with
 | false =>
   simp (config := sc) (disch := try exact dd) [std]
   refine oc q ?_
   simp (config := sc) (disch := try exact dd) [std]
 | true =>
   by_cases h : v = server
   ·simp (config := sc) (disch := try exact dd) [std]
    refine oc q ?_
    simp (config := sc) (disch := try exact dd) [std, h]
   ·simp (config := sc) (disch := try exact dd) [std]
    refine oc q ?_
    simp (config := sc) (disch := try exact dd) [std, h]
theorem optsKindOf (l : List Opt) (hl : sized l) : Holds Tryz.prog 48 [.d (.slice (l.map Opt.d))] (.d (.int .i64 (kindS l))) (fun _ => false) := by
 refine Holds.by (by kernel_rfl) Tryz.func48 (by kernel_rfl) rfl [] (by simp) (by kernel_rfl) (by kernel_rfl) rfl ?_
 conv in ccs _ => cbv
 have q := tlvFind l 53 hl
 unfold kindS
 have hsz := fun d h => @findS_sized l 53 d hl h
 generalize findS l 53 = f at *
 match f with
 | none =>
   simp (config := sc) (disch := try exact dd) [std]
   refine oc q ?_
   simp (config := sc) (disch := try exact dd) [std]
 | some [] =>
   simp (config := sc) (disch := try exact dd) [std]
   refine oc q ?_
   simp (config := sc) (disch := try exact dd) [std]
 | some [b] =>
   have hn : nth [b] 0 = b := rfl
   have hb := b.toNat_lt
   by_cases h1 : (b.toNat : Int) < 1
   ·have h2 : ¬ (1 ≤ b.toNat ∧ b.toNat ≤ 8) := by omega
    simp (config := sc) (disch := try exact dd) [std]
    refine oc q ?_
    simp (config := sc) (disch := try exact dd) [std, hn, h1, h2]
   ·by_cases h3 : (8 : Int) < b.toNat
    ·have h2 : ¬ (1 ≤ b.toNat ∧ b.toNat ≤ 8) := by omega
     simp (config := sc) (disch := try exact dd) [std]
     refine oc q ?_
     simp (config := sc) (disch := try exact dd) [std, hn, h1, h2, h3]
    ·have h2 : 1 ≤ b.toNat ∧ b.toNat ≤ 8 := by omega
     simp (config := sc) (disch := try exact dd) [std]
     refine oc q ?_
     simp (config := sc) (disch := try exact dd) [std, hn, h1, h2, h3]
 | some (b :: b2 :: r) =>
   have hlen := hsz _ rfl
   simp only [List.length_cons] at hlen
   have h1 : ¬ (r.length : Int) + 1 + 1 = 1 := by omega
   simp (config := sc) (disch := try exact dd) [std]
   refine oc q ?_
   simp (config := sc) (disch := try exact dd) [std, h1]
def classS (m : Msg) : Int :=
 if kindS m.opts = 3 then (if m.ci = 0 ∧ (numS m.opts 50).isSome = true then (if (numS m.opts 54).isSome = true then 1 else 2) else if ¬ m.ci = 0 ∧ (numS m.opts 50).isSome = false ∧ (numS m.opts 54).isSome = false then 3 else 0) else 0
theorem classOf (m : Msg) (hm : sizedM m) : Holds Tryz.prog 99 [.d m.d] (.d (.int .i64 (classS m))) (fun _ => false) := by
 refine Holds.by (by kernel_rfl) Tryz.func99 (by kernel_rfl) rfl [20001] (by simp) (by kernel_rfl) (by kernel_rfl) rfl ?_
 conv in ccs _ => cbv
 have q1 := optsKindOf m.opts hm.2
 have q2 := optsNumber m.opts 54 hm.2
 have q3 := optsNumber m.opts 50 hm.2
 unfold classS
 generalize (numS m.opts 54).getD 0 = v at *
 generalize (numS m.opts 54).isSome = sv at *
 generalize (numS m.opts 50).getD 0 = u at *
 generalize (numS m.opts 50).isSome = wn at *
 generalize kindS m.opts = kd at *
 by_cases hk : kd = 3 <;> cases sv <;> cases wn <;> by_cases hc : m.ci = 0 <;> (
    simp (config := sc) (disch := try exact dd) [std, hk, hc]
    refine oc q2 ?_
    simp (config := sc) (disch := try exact dd) [std, hk, hc]
    refine oc q3 ?_
    simp (config := sc) (disch := try exact dd) [std, hk, hc]
    refine oc q1 ?_
    simp (config := sc) (disch := try exact dd) [std, hk, hc]
    done)
theorem ref16Of (m : Msg) (hm : sizedM m) : Holds Tryz.prog 26 [.d m.d] (.d (.int .i64 (classS m))) (fun _ => false) := by
 refine Holds.by (by kernel_rfl) Tryz.func26 (by kernel_rfl) rfl [20001] (by simp) (by kernel_rfl) (by kernel_rfl) rfl ?_
 conv in ccs _ => cbv
 have q1 := ref05Kind m.opts hm.2
 have q2 := ref05Number m.opts 54 hm.2
 have q3 := ref05Number m.opts 50 hm.2
 unfold classS
 generalize (numS m.opts 54).getD 0 = v at *
 generalize (numS m.opts 54).isSome = sv at *
 generalize (numS m.opts 50).getD 0 = u at *
 generalize (numS m.opts 50).isSome = wn at *
 generalize kindS m.opts = kd at *
 by_cases hk : kd = 3 <;> cases sv <;> cases wn <;> by_cases hc : m.ci = 0 <;> (
    simp (config := sc) (disch := try exact dd) [std, hk, hc]
    refine oc q1 ?_
    simp (config := sc) (disch := try exact dd) [std, hk, hc]
    try refine oc q2 ?_
    try simp (config := sc) (disch := try exact dd) [std, hk, hc]
    try refine oc q3 ?_
    try simp (config := sc) (disch := try exact dd) [std, hk, hc]
    done)
def aboutS (m : Msg) : Int := if classS m = 1 ∨ classS m = 2 then (numS m.opts 50).getD 0 else if classS m = 3 then m.ci else 0
theorem class_rng (m : Msg) : classS m = 0 ∨ classS m = 1 ∨ classS m = 2 ∨ classS m = 3 := by
 unfold classS
 repeat' split
 all_goals simp
theorem classAbout (m : Msg) (hm : sizedM m) : Holds Tryz.prog 100 [.d m.d] (.d (.int .i64 (aboutS m))) (fun _ => false) := by
 refine Holds.by (by kernel_rfl) Tryz.func100 (by kernel_rfl) rfl [20001] (by simp) (by kernel_rfl) (by kernel_rfl) rfl ?_
 conv in ccs _ => cbv
 have q1 := classOf m hm
 have q2 := optsNumber m.opts 50 hm.2
 have hr := class_rng m
 unfold aboutS
 generalize (numS m.opts 50).getD 0 = u at *
 generalize (numS m.opts 50).isSome = wn at *
 generalize classS m = kd at *
 rcases hr with rfl | rfl | rfl | rfl <;> (
    simp (config := sc) (disch := try exact dd) [std]
    refine oc q1 ?_
    simp (config := sc) (disch := try exact dd) [std]
    try refine oc q2 ?_
    try simp (config := sc) (disch := try exact dd) [std]
    done)
theorem ref16About (m : Msg) (hm : sizedM m) : Holds Tryz.prog 27 [.d m.d] (.d (.int .i64 (aboutS m))) (fun _ => false) := by
 refine Holds.by (by kernel_rfl) Tryz.func27 (by kernel_rfl) rfl [20001] (by simp) (by kernel_rfl) (by kernel_rfl) rfl ?_
 conv in ccs _ => cbv
 have q1 := ref16Of m hm
 have q2 := ref05Number m.opts 50 hm.2
 have hr := class_rng m
 unfold aboutS
 generalize (numS m.opts 50).getD 0 = u at *
 generalize (numS m.opts 50).isSome = wn at *
 generalize classS m = kd at *
 rcases hr with rfl | rfl | rfl | rfl <;> (
    simp (config := sc) (disch := try exact dd) [std]
    refine oc q1 ?_
    simp (config := sc) (disch := try exact dd) [std]
    try refine oc q2 ?_
    try simp (config := sc) (disch := try exact dd) [std]
    done)
end Go.Proofs.YtnkmlhlegndlhaaGreat
