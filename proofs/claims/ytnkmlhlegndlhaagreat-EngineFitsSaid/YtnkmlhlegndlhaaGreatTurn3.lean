/- What becomes of a message: the program's engine, third part. -/
import Derived.Test.YtnkmlhlegndlhaaGreatTurn2
namespace Go.Proofs.YtnkmlhlegndlhaaGreat
open BoEng Go
set_option maxRecDepth 100000
attribute [-simp] List.map_take List.map_drop List.length_flatMap
set_option linter.unusedSimpArgs false
set_option linter.unusedVariables false
set_option maxHeartbeats 2000000 in
theorem turnRequest (u : TurnR) (ok : TOk u) : Holds Tryz.prog 44 [.cptr (turnC u)] (.d (requestS u).d) (fun _ => false) := by
 refine Holds.by (by kernel_rfl) Tryz.func44 (by kernel_rfl) rfl [50011, 50016, 50022, 50030, 50034, 50038, 50042, 50047, 50084] (by simp) (by kernel_rfl) (by kernel_rfl) rfl ?_
 conv in ccs _ => cbv
 have hkl := ok.kl
 have q1 := classOf u.m ok.hm
 have q2 := classAbout u.m ok.hm
 have q3 := tableGet u.t (aboutS u.m) ok.ht.l ok.ht.k
 have q4 := allocMay u.c u.t u.net u.k (aboutS u.m) u.now ok.hc ok.ht (by omega)
 have q5 := turnIn u ok (aboutS u.m)
 have q6 := turnNak u ok
 have q7 := turnGive u ok (aboutS u.m)
 have hr := class_rng u.m
 unfold requestS
 generalize giveS u (aboutS u.m) = gv at *
 generalize nakS u = nk at *
 generalize hmy : mayS u.c u.t u.net u.k u.now (aboutS u.m) = my at *
 clear hmy
 generalize inN u.c u.net (aboutS u.m) = inn at *
 generalize (getT u.t (aboutS u.m)).2 = kn at *
 generalize (getT u.t (aboutS u.m)).1 = l at *
 generalize aboutS u.m = a at *
 generalize classS u.m = cl at *
 rw [turnC_eq] at *
 rcases hr with rfl | hr
 ·simp (config := sc) (disch := try exact dd) [std, LeaseR.d]
  refine oc q1 ?_
  simp (config := sc) (disch := try exact dd) [std]
  refine oc q2 ?_
  simp (config := sc) (disch := try exact dd) [std]
  refine oc q3 ?_
  simp (config := sc) (disch := try exact dd) [std]
  refine oc q4 ?_
  simp (config := { sc with maxSteps := 1000000 }) (disch := try exact dd) [std, ans0, msg0, le0]
 have hc0 : ¬ cl = 0 := by omega
 cases inn with
 | false =>
   simp (config := sc) (disch := try exact dd) [std, LeaseR.d]
   refine oc q1 ?_
   simp (config := sc) (disch := try exact dd) [std]
   refine oc q2 ?_
   simp (config := sc) (disch := try exact dd) [std]
   refine oc q3 ?_
   simp (config := sc) (disch := try exact dd) [std]
   refine oc q4 ?_
   simp (config := sc) (disch := try exact dd) [std, hc0]
   refine oc q5 ?_
   simp (config := sc) (disch := try exact dd) [std, hc0]
   refine oc q6 ?_
   simp (config := { sc with maxSteps := 1000000 }) (disch := try exact dd) [std, hc0]
 | true =>
 by_cases hc1 : cl = 1
 ·subst hc1
  cases my with
  | true =>
    simp (config := sc) (disch := try exact dd) [std, LeaseR.d]
    refine oc q1 ?_
    simp (config := sc) (disch := try exact dd) [std]
    refine oc q2 ?_
    simp (config := sc) (disch := try exact dd) [std]
    refine oc q3 ?_
    simp (config := sc) (disch := try exact dd) [std]
    refine oc q4 ?_
    simp (config := sc) (disch := try exact dd) [std]
    refine oc q5 ?_
    simp (config := sc) (disch := try exact dd) [std]
    refine oc (q7 rfl) ?_
    simp (config := { sc with maxSteps := 1000000 }) (disch := try exact dd) [std]
  | false =>
    simp (config := sc) (disch := try exact dd) [std, LeaseR.d]
    refine oc q1 ?_
    simp (config := sc) (disch := try exact dd) [std]
    refine oc q2 ?_
    simp (config := sc) (disch := try exact dd) [std]
    refine oc q3 ?_
    simp (config := sc) (disch := try exact dd) [std]
    refine oc q4 ?_
    simp (config := sc) (disch := try exact dd) [std]
    refine oc q5 ?_
    simp (config := sc) (disch := try exact dd) [std]
    refine oc q6 ?_
    simp (config := { sc with maxSteps := 1000000 }) (disch := try exact dd) [std]
 cases kn with
 | false =>
   simp (config := sc) (disch := try exact dd) [std, LeaseR.d]
   refine oc q1 ?_
   simp (config := sc) (disch := try exact dd) [std]
   refine oc q2 ?_
   simp (config := sc) (disch := try exact dd) [std]
   refine oc q3 ?_
   simp (config := sc) (disch := try exact dd) [std]
   refine oc q4 ?_
   simp (config := sc) (disch := try exact dd) [std, hc0, hc1]
   refine oc q5 ?_
   simp (config := { sc with maxSteps := 1000000 }) (disch := try exact dd) [std, hc0, hc1, ans0, msg0, le0]
 | true =>
 by_cases hw : l.key = u.k ∧ l.state ≠ 3 ∧ my = true
 ·obtain ⟨h1, h2, rfl⟩ := hw
  have h2 : ¬ l.state = 3 := h2
  simp (config := sc) (disch := try exact dd) [std, LeaseR.d]
  refine oc q1 ?_
  simp (config := sc) (disch := try exact dd) [std]
  refine oc q2 ?_
  simp (config := sc) (disch := try exact dd) [std]
  refine oc q3 ?_
  simp (config := sc) (disch := try exact dd) [std]
  refine oc q4 ?_
  simp (config := sc) (disch := try exact dd) [std, hc0, hc1]
  refine oc q5 ?_
  simp (config := sc) (disch := try exact dd) [std, hc0, hc1, h1, h2]
  refine oc (q7 rfl) ?_
  simp (config := { sc with maxSteps := 1000000 }) (disch := try exact dd) [std, hc0, hc1, h1, h2]
 ·have hw2 : ¬ l.key = u.k ∨ (l.key = u.k ∧ l.state = 3) ∨ (l.key = u.k ∧ ¬ l.state = 3 ∧ my = false) := by
   by_cases h1 : l.key = u.k <;> by_cases h2 : l.state = 3 <;> cases my <;> simp_all
  rw [if_neg hw]
  clear hw
  rcases hw2 with h1 | ⟨h1, h2⟩ | ⟨h1, h2, rfl⟩ <;> (
   simp (config := sc) (disch := try exact dd) [std, LeaseR.d]
   refine oc q1 ?_
   simp (config := sc) (disch := try exact dd) [std]
   refine oc q2 ?_
   simp (config := sc) (disch := try exact dd) [std]
   refine oc q3 ?_
   simp (config := sc) (disch := try exact dd) [std]
   refine oc q4 ?_
   simp (config := sc) (disch := try exact dd) [std, hc0, hc1]
   refine oc q5 ?_
   (first | simp (config := sc) (disch := try exact dd) [std, hc0, hc1, h1, h2] | simp (config := sc) (disch := try exact dd) [std, hc0, hc1, h1])
   refine oc q6 ?_
   simp (config := { sc with maxSteps := 1000000 }) (disch := try exact dd) [std, hc0, hc1])
theorem kind_rng (l : List Opt) : 0 ≤ kindS l ∧ kindS l ≤ 8 := by
 unfold kindS
 split
 ·split <;> omega
 ·omega
set_option maxHeartbeats 4000000 in
theorem engineHandle (c : Cfg) (t : List LeaseR) (m : Msg) (iface now : Int) (hc : sizedC c) (ht : TSz t) (hm : sizedM m) :
  Holds Tryz.prog 11 [.d c.d, .d (.slice (t.map LeaseR.d)), .d m.d, .d (.int .i64 iface), .d (.int .i64 now)] (.d (handleS c t m iface now).d) (fun _ => false) := by
 refine Holds.by (by kernel_rfl) Tryz.func11 (by kernel_rfl) rfl [20005, 20007, 20075] (by simp) (by kernel_rfl) (by kernel_rfl) rfl ?_
 conv in ccs _ => cbv
 have q1 := confCheck c hc
 have q2 := tableRight t ht.l ht.k
 have q3 := classForeign m c.server hm
 have q4 := keyOf m hm
 have q5 := pickSubnet c m iface hc hm
 have q6 := optsKindOf m.opts hm.2
 have hkl := keyS_len m hm
 unfold handleS
 cases hf : fairH c t m now with
 | false =>
   rw [if_neg (by simp)]
   by_cases h1 : checkS c = 0
   ·rw [h1] at q1
    cases h2 : tableR t with
    | false =>
      rw [h2] at q2
      simp (config := sc) (disch := try exact dd) [std]
      refine oc q1 ?_
      simp (config := sc) (disch := try exact dd) [std]
      refine oc q2 ?_
      simp (config := { sc with maxSteps := 1000000 }) (disch := try exact dd) [std, ans0, msg0, le0]
    | true =>
    rw [h2] at q2
    by_cases h3 : now < 0
    ·simp (config := sc) (disch := try exact dd) [std]
     refine oc q1 ?_
     simp (config := sc) (disch := try exact dd) [std]
     refine oc q2 ?_
     simp (config := { sc with maxSteps := 1000000 }) (disch := try exact dd) [std, h3, ans0, msg0, le0]
    by_cases h4 : 1125899906842624 < now
    ·simp (config := sc) (disch := try exact dd) [std]
     refine oc q1 ?_
     simp (config := sc) (disch := try exact dd) [std]
     refine oc q2 ?_
     simp (config := { sc with maxSteps := 1000000 }) (disch := try exact dd) [std, h3, h4, ans0, msg0, le0]
    by_cases h5 : m.op = 1
    ·have h6 : foreignS m c.server = true := by
      have h7 : (0 : Int) ≤ now ∧ now ≤ 1125899906842624 := by omega
      unfold fairH at hf
      rw [h1, h2, h5, decide_eq_true h7] at hf
      simpa using hf
     rw [h6] at q3
     simp only [Msg.d_eq, h5] at q3
     simp (config := sc) (disch := try exact dd) [std]
     refine oc q1 ?_
     simp (config := sc) (disch := try exact dd) [std]
     refine oc q2 ?_
     simp (config := sc) (disch := try exact dd) [std, h3, h4, h5]
     refine oc q3 ?_
     simp (config := { sc with maxSteps := 1000000 }) (disch := try exact dd) [std, ans0, msg0, le0]
    ·simp (config := sc) (disch := try exact dd) [std]
     refine oc q1 ?_
     simp (config := sc) (disch := try exact dd) [std]
     refine oc q2 ?_
     simp (config := { sc with maxSteps := 1000000 }) (disch := try exact dd) [std, h3, h4, h5, ans0, msg0, le0]
   ·simp (config := sc) (disch := try exact dd) [std]
    refine oc q1 ?_
    simp (config := { sc with maxSteps := 1000000 }) (disch := try exact dd) [std, h1, ans0, msg0, le0]
 | true =>
 have hf' := hf
 simp only [fairH, Bool.and_eq_true, decide_eq_true_eq, Bool.not_eq_true'] at hf'
 obtain ⟨⟨⟨⟨h1, h2⟩, h3⟩, h5⟩, h6⟩ := hf'
 have h3a : ¬ now < 0 := by omega
 have h4 : ¬ 1125899906842624 < now := by omega
 rw [h1] at q1
 rw [h2] at q2
 rw [h6] at q3
 simp only [Msg.d_eq, h5] at q3 q4 q5
 rcases Classical.em (¬ (keyS m).2 = 0) with hk | hk
 ·rw [if_neg (fun h => hk h.2)]
  unfold foundD at q5
  generalize (subnetS c m iface).isSome = fb at *
  simp (config := sc) (disch := try exact dd) [std]
  refine oc q1 ?_
  simp (config := sc) (disch := try exact dd) [std]
  refine oc q2 ?_
  simp (config := sc) (disch := try exact dd) [std, h3a, h4, h5]
  refine oc q3 ?_
  simp (config := sc) (disch := try exact dd) [std]
  refine oc q4 ?_
  simp (config := sc) (disch := try exact dd) [std]
  refine oc q5 ?_
  simp (config := { sc with maxSteps := 1000000 }) (disch := try exact dd) [std, hk, ans0, msg0, le0]
 have hk : (keyS m).2 = 0 := Classical.not_not.1 hk
 rw [if_pos ⟨rfl, hk⟩]
 rw [hk] at q4
 cases hs : subnetS c m iface with
 | none =>
   rw [hs, foundD_n] at q5
   simp (config := sc) (disch := try exact dd) [std]
   refine oc q1 ?_
   simp (config := sc) (disch := try exact dd) [std]
   refine oc q2 ?_
   simp (config := sc) (disch := try exact dd) [std, h3a, h4, h5]
   refine oc q3 ?_
   simp (config := sc) (disch := try exact dd) [std]
   refine oc q4 ?_
   simp (config := sc) (disch := try exact dd) [std]
   refine oc q5 ?_
   simp (config := { sc with maxSteps := 1000000 }) (disch := try exact dd) [std, ans0, msg0, le0]
 | some x =>
   rw [hs, foundD_s] at q5
   obtain ⟨_, hsp, hrm⟩ := subnet_subC hs
   obtain ⟨u, hu⟩ : ∃ u : TurnR, u = ⟨c, t, m, (keyS m).1, x.net, x.sub, x.s, now⟩ := ⟨_, rfl⟩
   have ok : TOk u := by
    subst hu
    exact ⟨hc, ht, hm, h1, h2, hrm, hsp, by dsimp only; omega, h3⟩
   have z1 := turnDiscover u ok
   have z2 := turnRequest u ok
   have z3 := turnDecline u ok
   have z4 := turnRelease u ok
   have z5 := turnInform u ok
   dsimp only
   rw [← hu]
   have hum : kindS u.m.opts = kindS m.opts := by rw [hu]
   have hT : turnC u = cells c.d ++ [.slice (t.map LeaseR.d)] ++ cells m.d ++ [.str (keyS m).1, .int .i64 x.net, .int .i64 x.sub, .int .i64 now] := by rw [hu]; rfl
   unfold turnS
   rw [hum]
   have hkr := kind_rng m.opts
   generalize kindS m.opts = kd at *
   simp only [Cfg.d_eq, cells_agg, Msg.d_eq, h5, List.cons_append, List.nil_append] at hT
   have hkd : kd = 1 ∨ kd = 3 ∨ kd = 4 ∨ kd = 7 ∨ kd = 8 ∨ kd = 0 ∨ kd = 2 ∨ kd = 5 ∨ kd = 6 := by omega
   generalize discoverS u = a1 at *
   generalize requestS u = a2 at *
   generalize declineS u = a3 at *
   generalize releaseS u = a4 at *
   generalize informS u = a5 at *
   rw [hT] at z1 z2 z3 z4 z5
   clear hT hum hu ok
   rcases hkd with rfl | rfl | rfl | rfl | rfl | rfl | rfl | rfl | rfl <;> (
    simp (config := sc) (disch := try exact dd) [std]
    refine oc q1 ?_
    simp (config := sc) (disch := try exact dd) [std]
    refine oc q2 ?_
    simp (config := sc) (disch := try exact dd) [std, h3a, h4, h5]
    refine oc q3 ?_
    simp (config := sc) (disch := try exact dd) [std]
    refine oc q4 ?_
    simp (config := sc) (disch := try exact dd) [std]
    refine oc q5 ?_
    simp (config := sc) (disch := try exact dd) [std]
    refine oc q6 ?_
    first
    | (simp (config := { sc with maxSteps := 1000000 }) (disch := try exact dd) [std, ans0, msg0, le0]; done)
    | (simp (config := sc) (disch := try exact dd) [std]
       first | refine oc z1 ?_ | refine oc z2 ?_ | refine oc z3 ?_ | refine oc z4 ?_ | refine oc z5 ?_
       simp (config := { sc with maxSteps := 1000000 }) (disch := try exact dd) [std]))
end Go.Proofs.YtnkmlhlegndlhaaGreat
