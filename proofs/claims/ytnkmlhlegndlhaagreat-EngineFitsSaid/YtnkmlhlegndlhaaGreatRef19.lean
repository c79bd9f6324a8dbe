/- What becomes of a message: the document's layer 19. -/
import Derived.Test.YtnkmlhlegndlhaaGreatTurn3
import Derived.Test.YtnkmlhlegndlhaaGreatGreat
namespace Go.Proofs.YtnkmlhlegndlhaaGreat
open BoEng Go
set_option maxRecDepth 100000
attribute [-simp] List.map_take List.map_drop List.length_flatMap
set_option linter.unusedSimpArgs false
set_option linter.unusedVariables false
theorem ref19End (now time : Int) (hn : 0 ≤ now ∧ now ≤ 1125899906842624) (ht : 0 ≤ time ∧ time ≤ 4294967295) : Holds Tryz.prog 22 [.d (.int .i64 now), .d (.int .i64 time)] (.d (.int .i64 (endS now time))) (fun _ => false) := by
 refine Holds.by (by kernel_rfl) Tryz.func22 (by kernel_rfl) rfl [] (by simp) (by kernel_rfl) (by kernel_rfl) rfl ?_
 conv in ccs _ => cbv
 by_cases h : 1125899906842624 - time < now
 ·have he : endS now time = 1125899906842624 := by unfold endS; omega
  simp (config := sc) (disch := try exact dd) [std, h, he]
 ·have he : endS now time = now + time := by unfold endS; omega
  simp (config := sc) (disch := try exact dd) [std, h, he]
theorem ref19Sent (u : TurnR) (ok : TOk u) (net sub : Int) (s : Sub) (hs : subC u.c net sub = some s) (kind a : Int) (hk : kindOk kind = true) (ha : rightA a = true) :
  Holds Tryz.prog 51 [.d u.c.d, .d (.int .i64 net), .d (.int .i64 sub), .d u.m.d, .d (.int .i64 kind), .d (.int .i64 a)] (.d (AnsR.d ⟨true, false, makeM u.c s u.m kind a, destR u.m kind (if kind = 6 then 0 else a), le0⟩)) (fun _ => false) := by
 refine Holds.by (by kernel_rfl) Tryz.func51 (by kernel_rfl) rfl [20006, 20009, 50014, 50017, 50027] (by simp) (by kernel_rfl) (by kernel_rfl) rfl ?_
 conv in ccs _ => cbv
 have hf := ok.fair hk ha hs
 have q2 := ref18Make u.c net sub u.m kind a ok.hc ok.hm hf hs
 obtain ⟨hr, hl⟩ := make_right hf hs
 have q3 := ref04Bytes (makeM u.c s u.m kind a) hr
 have hyi : (makeM u.c s u.m kind a).yi = if kind = 6 then 0 else a := rfl
 rw [← hyi]
 clear hyi hf hk ha
 generalize makeM u.c s u.m kind a = r at *
 have q4 := ref17Of u.m kind r.yi
 generalize destR u.m kind r.yi = dst at *
 have hbl : (bytesS r).length ≤ 1500 := by
  unfold bytesS
  simp only [List.length_append, List.length_replicate]
  omega
 have hb' : ¬ (1500 : Int) < (bytesS r).length := by omega
 generalize bytesS r = B at *
 simp (config := sc) (disch := try exact dd) [std]
 refine oc q2 ?_
 simp (config := sc) (disch := try exact dd) [std]
 refine oc q3 ?_
 simp (config := sc) (disch := try exact dd) [std, hb']
 refine oc q4 ?_
 simp (config := { sc with maxSteps := 1000000 }) (disch := try exact dd) [std, le0]
set_option maxHeartbeats 1000000 in
theorem ref19Given (u : TurnR) (ok : TOk u) (a : Int) (hi : mayS u.c u.t u.net u.k u.now a = true) :
  Holds Tryz.prog 113 [.d u.c.d, .d (.slice (u.t.map LeaseR.d)), .d u.m.d, .d (.str u.k), .d (.int .i64 a), .d (.int .i64 u.now)] (.d (giveS u a).d) (fun _ => false) := by
 refine Holds.by (by kernel_rfl) Tryz.func113 (by kernel_rfl) rfl [20006, 20008, 50030, 50032, 50034, 50036, 50038, 50051, 50054] (by simp) (by kernel_rfl) (by kernel_rfl) rfl ?_
 conv in ccs _ => cbv
 obtain ⟨x, hf, hx, h0⟩ := may_in hi
 have hm := (find_has hf).2
 obtain ⟨hn, hk, hs⟩ := spot_at hm
 have ht := spot_time hm
 have ha := find_right hf
 have q1 := ref13Find u.c a ok.hc
 rw [hf, foundD_s] at q1
 have hn' : (x.net : Int) < u.c.nets.length := by omega
 have hk' : (x.sub : Int) < u.c.nets[x.net].subs.length := by omega
 have hso := ok.hc.1
 have hno := (ok.hc.2 _ (List.getElem_mem hn)).1
 have hsu : subOf u.c u.s 5 a = x.s := by
  have : a ≠ 0 := by omega
  simp [subOf, hf, this]
 have hend : giveL u a = ⟨a, 1, endS u.now x.s.time, u.k⟩ := by
  unfold giveL
  rw [hsu]
 have q2 := ref19End u.now x.s.time ok.now (by omega)
 have q3 := ref12Set u.t (giveL u a) ok.ht.l ok.ht.k (by have := ok.kl; simp [giveL]; omega)
 have q4 := ref19Sent u ok x.net x.sub x.s (find_subC hf) 5 a rfl ha
 unfold giveS sentR
 rw [hend] at q3 ⊢
 rw [hsu]
 generalize makeM u.c x.s u.m 5 a = r at *
 generalize destR u.m 5 _ = dst at *
 generalize endS u.now x.s.time = en at *
 generalize hsv : setT u.t _ = sv at *
 clear hsv
 by_cases he : sv.2 = 0
 ·rw [if_pos he]
  rw [he] at q3
  simp (config := sc) (disch := try exact dd) [std, hn', hk', hs]
  refine oc q1 ?_
  simp (config := sc) (disch := try exact dd) [std, hn', hk', hs]
  refine oc q2 ?_
  simp (config := sc) (disch := try exact dd) [std, hn', hk', hs]
  refine oc q3 ?_
  simp (config := sc) (disch := try exact dd) [std, hn', hk', hs]
  refine oc q4 ?_
  simp (config := { sc with maxSteps := 1000000 }) (disch := try exact dd) [std, le0]
 ·rw [if_neg he]
  simp (config := sc) (disch := try exact dd) [std, hn', hk', hs]
  refine oc q1 ?_
  simp (config := sc) (disch := try exact dd) [std, hn', hk', hs]
  refine oc q2 ?_
  simp (config := sc) (disch := try exact dd) [std, hn', hk', hs]
  refine oc q3 ?_
  simp (config := sc) (disch := try exact dd) [std, he, ans0, msg0, le0]
theorem ref19Ended (u : TurnR) (ok : TOk u) (a state until_ : Int) :
  Holds Tryz.prog 53 [.d (.slice (u.t.map LeaseR.d)), .d (.int .i64 a), .d (.str u.k), .d (.int .i64 state), .d (.int .i64 until_), .d (.int .i64 u.now)] (.d (endedS u a state until_).d) (fun _ => false) := by
 refine Holds.by (by kernel_rfl) Tryz.func53 (by kernel_rfl) rfl [] (by simp) (by kernel_rfl) (by kernel_rfl) rfl ?_
 conv in ccs _ => cbv
 have q1 := ref12Get u.t a ok.ht.l ok.ht.k
 have q2 := ref12Holds (getT u.t a).1 u.now
 unfold endedS mineS
 generalize (getT u.t a).1 = l at *
 generalize (getT u.t a).2 = b at *
 generalize holdsL u.now l = h at *
 cases b with
 | false =>
   simp (config := sc) (disch := try exact dd) [std]
   refine oc q1 ?_
   simp (config := sc) (disch := try exact dd) [std, ans0, msg0, le0]
 | true =>
   by_cases hk : l.key = u.k
   ·have hxd : l.d = .agg [.int .i64 l.addr, .int .i64 l.state, .int .i64 l.expiry, .str u.k] := by simp [LeaseR.d, hk]
    rw [hxd] at q2
    cases h with
    | false =>
      simp (config := sc) (disch := try exact dd) [std]
      refine oc q1 ?_
      simp (config := sc) (disch := try exact dd) [std, hk]
      refine oc q2 ?_
      simp (config := sc) (disch := try exact dd) [std, hk, ans0, msg0, le0]
    | true =>
      simp (config := sc) (disch := try exact dd) [std]
      refine oc q1 ?_
      simp (config := sc) (disch := try exact dd) [std, hk]
      refine oc q2 ?_
      simp (config := { sc with maxSteps := 1000000 }) (disch := try exact dd) [std, hk, keptR, msg0]
   ·simp (config := sc) (disch := try exact dd) [std]
    refine oc q1 ?_
    simp (config := sc) (disch := try exact dd) [std, hk, ans0, msg0, le0]
set_option maxHeartbeats 2000000 in
theorem ref19Request (u : TurnR) (ok : TOk u) :
  Holds Tryz.prog 52 [.d u.c.d, .d (.slice (u.t.map LeaseR.d)), .d u.m.d, .d (.str u.k), .d (.int .i64 u.net), .d (.int .i64 u.sub), .d (.int .i64 u.now)] (.d (requestS u).d) (fun _ => false) := by
 refine Holds.by (by kernel_rfl) Tryz.func52 (by kernel_rfl) rfl [20007, 20009, 50027, 50030] (by simp) (by kernel_rfl) (by kernel_rfl) rfl ?_
 conv in ccs _ => cbv
 have hkl := ok.kl
 have q1 := ref16Of u.m ok.hm
 have q2 := ref16About u.m ok.hm
 have q3 := ref12Get u.t (aboutS u.m) ok.ht.l ok.ht.k
 have q4 := ref15May u.c u.t u.net u.k (aboutS u.m) u.now ok.hc ok.ht (by omega)
 have q5 := ref15In u.c u.net (aboutS u.m) ok.hc
 have q6 := ref19Sent u ok u.net u.sub u.s ok.sp 6 0 rfl right0
 have q7 := ref19Given u ok (aboutS u.m)
 have hr := class_rng u.m
 have hnk : AnsR.d ⟨true, false, makeM u.c u.s u.m 6 0, destR u.m 6 (if (6 : Int) = 6 then 0 else 0), le0⟩ = (nakS u).d := rfl
 rw [hnk] at q6
 clear hnk
 unfold requestS
 generalize giveS u (aboutS u.m) = gv at *
 generalize nakS u = nk at *
 generalize hmy : mayS u.c u.t u.net u.k u.now (aboutS u.m) = my at *
 clear hmy
 generalize inN u.c u.net (aboutS u.m) = inn at *
 generalize (getT u.t (aboutS u.m)).2 = kn at *
 generalize (getT u.t (aboutS u.m)).1 = l at *
 generalize aboutS u.m = a at *
 generalize classS u.m = cl at *
 rcases hr with rfl | hr
 ·simp (config := sc) (disch := try exact dd) [std]
  refine oc q1 ?_
  simp (config := { sc with maxSteps := 1000000 }) (disch := try exact dd) [std, ans0, msg0, le0]
 have hc0 : ¬ cl = 0 := by omega
 cases inn with
 | false =>
   simp (config := sc) (disch := try exact dd) [std]
   refine oc q1 ?_
   simp (config := sc) (disch := try exact dd) [std, hc0]
   refine oc q2 ?_
   simp (config := sc) (disch := try exact dd) [std, hc0]
   refine oc q6 ?_
   simp (config := sc) (disch := try exact dd) [std, hc0]
   refine oc q5 ?_
   simp (config := { sc with maxSteps := 1000000 }) (disch := try exact dd) [std, hc0]
 | true =>
 by_cases hc1 : cl = 1
 ·subst hc1
  cases my with
  | true =>
    simp (config := sc) (disch := try exact dd) [std]
    refine oc q1 ?_
    simp (config := sc) (disch := try exact dd) [std]
    refine oc q2 ?_
    simp (config := sc) (disch := try exact dd) [std]
    refine oc q6 ?_
    simp (config := sc) (disch := try exact dd) [std]
    refine oc q5 ?_
    simp (config := sc) (disch := try exact dd) [std]
    refine oc q4 ?_
    simp (config := sc) (disch := try exact dd) [std]
    refine oc (q7 rfl) ?_
    simp (config := { sc with maxSteps := 1000000 }) (disch := try exact dd) [std]
  | false =>
    simp (config := sc) (disch := try exact dd) [std]
    refine oc q1 ?_
    simp (config := sc) (disch := try exact dd) [std]
    refine oc q2 ?_
    simp (config := sc) (disch := try exact dd) [std]
    refine oc q6 ?_
    simp (config := sc) (disch := try exact dd) [std]
    refine oc q5 ?_
    simp (config := sc) (disch := try exact dd) [std]
    refine oc q4 ?_
    simp (config := { sc with maxSteps := 1000000 }) (disch := try exact dd) [std]
 have hc2 : (1 : Int) < cl := by omega
 cases kn with
 | false =>
   simp (config := sc) (disch := try exact dd) [std]
   refine oc q1 ?_
   simp (config := sc) (disch := try exact dd) [std, hc0]
   refine oc q2 ?_
   simp (config := sc) (disch := try exact dd) [std, hc0]
   refine oc q6 ?_
   simp (config := sc) (disch := try exact dd) [std, hc0]
   refine oc q5 ?_
   simp (config := sc) (disch := try exact dd) [std, hc2]
   refine oc q3 ?_
   simp (config := { sc with maxSteps := 1000000 }) (disch := try exact dd) [std, hc0, hc1, ans0, msg0, le0]
 | true =>
 by_cases hw : l.key = u.k ∧ l.state ≠ 3 ∧ my = true
 ·obtain ⟨h1, h2, rfl⟩ := hw
  have h2 : ¬ l.state = 3 := h2
  simp (config := sc) (disch := try exact dd) [std]
  refine oc q1 ?_
  simp (config := sc) (disch := try exact dd) [std, hc0]
  refine oc q2 ?_
  simp (config := sc) (disch := try exact dd) [std, hc0]
  refine oc q6 ?_
  simp (config := sc) (disch := try exact dd) [std, hc0]
  refine oc q5 ?_
  simp (config := sc) (disch := try exact dd) [std, hc2]
  refine oc q3 ?_
  simp (config := sc) (disch := try exact dd) [std, h1, h2]
  refine oc q4 ?_
  simp (config := sc) (disch := try exact dd) [std, h1, h2]
  refine oc (q7 rfl) ?_
  simp (config := { sc with maxSteps := 1000000 }) (disch := try exact dd) [std, hc0, hc1, h1, h2]
 ·have hw2 : ¬ l.key = u.k ∨ (l.key = u.k ∧ l.state = 3) ∨ (l.key = u.k ∧ ¬ l.state = 3 ∧ my = false) := by
   by_cases h1 : l.key = u.k <;> by_cases h2 : l.state = 3 <;> cases my <;> simp_all
  rw [if_neg hw]
  clear hw
  rcases hw2 with h1 | ⟨h1, h2⟩ | ⟨h1, h2, rfl⟩
  ·simp (config := sc) (disch := try exact dd) [std]
   refine oc q1 ?_
   simp (config := sc) (disch := try exact dd) [std, hc0]
   refine oc q2 ?_
   simp (config := sc) (disch := try exact dd) [std, hc0]
   refine oc q6 ?_
   simp (config := sc) (disch := try exact dd) [std, hc0]
   refine oc q5 ?_
   simp (config := sc) (disch := try exact dd) [std, hc2]
   refine oc q3 ?_
   simp (config := { sc with maxSteps := 1000000 }) (disch := try exact dd) [std, h1, hc0, hc1]
  ·simp (config := sc) (disch := try exact dd) [std]
   refine oc q1 ?_
   simp (config := sc) (disch := try exact dd) [std, hc0]
   refine oc q2 ?_
   simp (config := sc) (disch := try exact dd) [std, hc0]
   refine oc q6 ?_
   simp (config := sc) (disch := try exact dd) [std, hc0]
   refine oc q5 ?_
   simp (config := sc) (disch := try exact dd) [std, hc2]
   refine oc q3 ?_
   simp (config := { sc with maxSteps := 1000000 }) (disch := try exact dd) [std, h1, h2, hc0, hc1]
  ·simp (config := sc) (disch := try exact dd) [std]
   refine oc q1 ?_
   simp (config := sc) (disch := try exact dd) [std, hc0]
   refine oc q2 ?_
   simp (config := sc) (disch := try exact dd) [std, hc0]
   refine oc q6 ?_
   simp (config := sc) (disch := try exact dd) [std, hc0]
   refine oc q5 ?_
   simp (config := sc) (disch := try exact dd) [std, hc2]
   refine oc q3 ?_
   simp (config := sc) (disch := try exact dd) [std, h1, h2]
   refine oc q4 ?_
   simp (config := { sc with maxSteps := 1000000 }) (disch := try exact dd) [std, h1, h2, hc0, hc1]
set_option maxHeartbeats 4000000 in
theorem ref19Handle (c : Cfg) (t : List LeaseR) (m : Msg) (iface now : Int) (hc : sizedC c) (ht : TSz t) (hm : sizedM m) :
  Holds Tryz.prog 14 [.d c.d, .d (.slice (t.map LeaseR.d)), .d m.d, .d (.int .i64 iface), .d (.int .i64 now)] (.d (handleS c t m iface now).d) (fun _ => false) := by
 refine Holds.by (by kernel_rfl) Tryz.func14 (by kernel_rfl) rfl [20005, 20007] (by simp) (by kernel_rfl) (by kernel_rfl) rfl ?_
 conv in ccs _ => cbv
 have q1 := ref13Check c hc
 have q2 := ref12Right t ht.l ht.k
 have q3 := ref16Foreign m c.server hm
 have q4 := ref07Of m hm
 have q5 := ref14Subnet c m iface hc hm
 have q6 := ref05Kind m.opts hm.2
 have q7 := ref05Number m.opts 50 hm.2
 have hkl := keyS_len m hm
 unfold handleS
 by_cases h1 : checkS c = 0
 case neg =>
  have hf : fairH c t m now = false := by simp [fairH, h1]
  rw [hf, if_neg (by simp)]
  simp (config := sc) (disch := try exact dd) [std]
  refine oc q1 ?_
  simp (config := { sc with maxSteps := 1000000 }) (disch := try exact dd) [std, h1, ans0, msg0, le0]
 rw [h1] at q1
 cases h2 : tableR t with
 | false =>
   have hf : fairH c t m now = false := by simp [fairH, h2]
   rw [hf, if_neg (by simp)]
   rw [h2] at q2
   simp (config := sc) (disch := try exact dd) [std]
   refine oc q1 ?_
   simp (config := sc) (disch := try exact dd) [std]
   refine oc q2 ?_
   simp (config := { sc with maxSteps := 1000000 }) (disch := try exact dd) [std, ans0, msg0, le0]
 | true =>
 rw [h2] at q2
 by_cases h3 : now < 0
 ·have hf : fairH c t m now = false := by
   have : decide (0 ≤ now ∧ now ≤ 1125899906842624) = false := decide_eq_false (by omega)
   simp [fairH, this]
  rw [hf, if_neg (by simp)]
  simp (config := sc) (disch := try exact dd) [std]
  refine oc q1 ?_
  simp (config := sc) (disch := try exact dd) [std]
  refine oc q2 ?_
  simp (config := { sc with maxSteps := 1000000 }) (disch := try exact dd) [std, h3, ans0, msg0, le0]
 by_cases h4 : 1125899906842624 < now
 ·have hf : fairH c t m now = false := by
   have : decide (0 ≤ now ∧ now ≤ 1125899906842624) = false := decide_eq_false (by omega)
   simp [fairH, this]
  rw [hf, if_neg (by simp)]
  simp (config := sc) (disch := try exact dd) [std]
  refine oc q1 ?_
  simp (config := sc) (disch := try exact dd) [std]
  refine oc q2 ?_
  simp (config := { sc with maxSteps := 1000000 }) (disch := try exact dd) [std, h3, h4, ans0, msg0, le0]
 by_cases h5 : m.op = 1
 case neg =>
  have hf : fairH c t m now = false := by simp [fairH, h5]
  rw [hf, if_neg (by simp)]
  simp (config := sc) (disch := try exact dd) [std]
  refine oc q1 ?_
  simp (config := sc) (disch := try exact dd) [std]
  refine oc q2 ?_
  simp (config := { sc with maxSteps := 1000000 }) (disch := try exact dd) [std, h3, h4, h5, ans0, msg0, le0]
 have hfo : fairH c t m now = !foreignS m c.server := by
  have : decide (0 ≤ now ∧ now ≤ 1125899906842624) = true := decide_eq_true (by omega)
  simp [fairH, this, h1, h2, h5]
 rw [hfo]
 simp only [Msg.d_eq, h5] at q3 q4 q5
 rcases Classical.em (¬ (keyS m).2 = 0) with hk | hk
 ·rw [if_neg (fun h => hk h.2)]
  unfold foundD at q5
  generalize (subnetS c m iface).isSome = fb at *
  simp (config := sc) (disch := try exact dd) [std]
  refine oc q1 ?_
  simp (config := sc) (disch := try exact dd) [std]
  refine oc q2 ?_
  simp (config := sc) (disch := try exact dd) [std, h3, h4, h5]
  refine oc q4 ?_
  simp (config := sc) (disch := try exact dd) [std]
  refine oc q5 ?_
  simp (config := { sc with maxSteps := 1000000 }) (disch := try exact dd) [std, hk, ans0, msg0, le0]
 have hk : (keyS m).2 = 0 := Classical.not_not.1 hk
 rw [hk] at q4
 cases hs : subnetS c m iface with
 | none =>
   rw [hs, foundD_n] at q5
   simp only [ite_self]
   simp (config := sc) (disch := try exact dd) [std]
   refine oc q1 ?_
   simp (config := sc) (disch := try exact dd) [std]
   refine oc q2 ?_
   simp (config := sc) (disch := try exact dd) [std, h3, h4, h5]
   refine oc q4 ?_
   simp (config := sc) (disch := try exact dd) [std]
   refine oc q5 ?_
   simp (config := { sc with maxSteps := 1000000 }) (disch := try exact dd) [std, ans0, msg0, le0]
 | some x =>
 rw [hs, foundD_s] at q5
 cases h6 : foreignS m c.server with
 | true =>
   rw [h6] at q3
   rw [if_neg (by simp)]
   simp (config := sc) (disch := try exact dd) [std]
   refine oc q1 ?_
   simp (config := sc) (disch := try exact dd) [std]
   refine oc q2 ?_
   simp (config := sc) (disch := try exact dd) [std, h3, h4, h5]
   refine oc q4 ?_
   simp (config := sc) (disch := try exact dd) [std]
   refine oc q5 ?_
   simp (config := sc) (disch := try exact dd) [std]
   refine oc q3 ?_
   simp (config := { sc with maxSteps := 1000000 }) (disch := try exact dd) [std, ans0, msg0, le0]
 | false =>
   rw [h6] at q3
   rw [if_pos ⟨rfl, hk⟩]
   obtain ⟨_, hsp, hrm⟩ := subnet_subC hs
   obtain ⟨u, hu⟩ : ∃ u : TurnR, u = ⟨c, t, m, (keyS m).1, x.net, x.sub, x.s, now⟩ := ⟨_, rfl⟩
   have hnow : 0 ≤ now ∧ now ≤ 1125899906842624 := by omega
   have ok : TOk u := by
    subst hu
    exact ⟨hc, ht, hm, h1, h2, hrm, hsp, by dsimp only; omega, hnow⟩
   have hpr := prob_rng h1
   have z1 := ref15Choose c t x.net (keyS m).1 (wantU u) now hc ht (by omega)
   have z2 := ref19Request u ok
   have z3 := ref19Ended u ok (wantU u) 3 (endS now c.probation)
   have z4 := ref19Ended u ok m.ci 2 now
   have z5 := ref19Sent u ok x.net x.sub x.s (by rw [hu]; exact hsp) 5 0 rfl right0
   have z6 := ref19End now c.probation hnow (by omega)
   have z7 := fun a => ref13Find c a hc
   have z8 := fun a (y : Spot) hy ha => ref19Sent u ok y.net y.sub y.s hy 2 a rfl ha
   dsimp only
   rw [← hu]
   have hum : kindS u.m.opts = kindS m.opts := by rw [hu]
   have hwu : wantU u = (numS m.opts 50).getD 0 := by rw [hu]; rfl
   have w1 : discoverS u = match chooseS c t x.net (keyS m).1 (wantU u) now with | none => ans0 | some a => sentR u 2 a false le0 := by rw [hu]; rfl
   have w3 : declineS u = endedS u (wantU u) 3 (endS now c.probation) := by rw [hu]; rfl
   have w4 : releaseS u = endedS u m.ci 2 now := by rw [hu]; rfl
   have w5 : informS u = if m.ci = 0 then ans0 else ⟨true, false, makeM u.c x.s u.m 5 0, destR u.m 5 (if (5 : Int) = 6 then 0 else 0), le0⟩ := by rw [hu]; rfl
   have w8 : ∀ a (y : Spot), findC c a = some y → a ≠ 0 → sentR u 2 a false le0 = ⟨true, false, makeM u.c y.s u.m 2 a, destR u.m 2 (if (2 : Int) = 6 then 0 else a), le0⟩ := by
    intro a y hy h0
    have : subOf u.c u.s 2 a = y.s := by
     have : findC u.c a = some y := by rw [hu]; exact hy
     simp [subOf, this, h0]
    unfold sentR
    rw [this]
   unfold turnS
   rw [hum, w1, w3, w4, w5]
   have hkr := kind_rng m.opts
   have hcm := fun a h => @choose_may c t x.net (keyS m).1 (wantU u) now a h
   generalize kindS m.opts = kd at *
   have hkd : kd = 1 ∨ kd = 3 ∨ kd = 4 ∨ kd = 7 ∨ kd = 8 ∨ kd = 0 ∨ kd = 2 ∨ kd = 5 ∨ kd = 6 := by omega
   rw [← hwu] at q7
   generalize (numS m.opts 50).isSome = wb at *
   generalize endedS u (wantU u) 3 (endS now c.probation) = a3 at *
   generalize endedS u m.ci 2 now = a4 at *
   generalize requestS u = a2 at *
   generalize hdr : (⟨true, false, makeM u.c x.s u.m 5 0, destR u.m 5 (if (5 : Int) = 6 then 0 else 0), le0⟩ : AnsR) = a5 at *
   clear hdr
   have huc : u.c = c := by rw [hu]
   have hut : u.t = t := by rw [hu]
   have hu1 : u.m = m := by rw [hu]
   have huk : u.k = (keyS m).1 := by rw [hu]
   have hun : u.net = x.net := by rw [hu]
   have hus : u.sub = x.sub := by rw [hu]
   have huw : u.now = now := by rw [hu]
   rw [huc, hut, hu1, huk, hun, hus, huw] at z2
   rw [hut, huk, huw] at z3 z4
   rw [huc, hu1] at z5
   simp only [huc, hu1] at z8 w8
   generalize wantU u = wn at *
   generalize (keyS m).1 = kk at *
   simp only [Msg.d_eq, h5] at z2 z5 z8
   clear hum hwu w1 w3 w4 w5 ok
   rcases hkd with rfl | rfl | rfl | rfl | rfl | rfl | rfl | rfl | rfl
   ·cases hch : chooseS c t x.net kk wn now with
    | none =>
      rw [hch] at z1
      simp (config := sc) (disch := try exact dd) [std]
      refine oc q1 ?_
      simp (config := sc) (disch := try exact dd) [std]
      refine oc q2 ?_
      simp (config := sc) (disch := try exact dd) [std, h3, h4, h5]
      refine oc q4 ?_
      simp (config := sc) (disch := try exact dd) [std]
      refine oc q5 ?_
      simp (config := sc) (disch := try exact dd) [std]
      refine oc q3 ?_
      simp (config := sc) (disch := try exact dd) [std]
      refine oc q7 ?_
      simp (config := sc) (disch := try exact dd) [std]
      refine oc q6 ?_
      simp (config := sc) (disch := try exact dd) [std]
      refine oc z1 ?_
      simp (config := { sc with maxSteps := 1000000 }) (disch := try exact dd) [std, ans0, msg0, le0]
    | some a =>
      rw [hch] at z1
      obtain ⟨y, hy, _, hpos⟩ := may_in (hcm a hch)
      have z7 := z7 a
      rw [hy, foundD_s] at z7
      have z8 := z8 a y (find_subC hy) (find_right hy)
      have w8 := w8 a y hy (by omega)
      dsimp only
      rw [w8]
      generalize makeM c y.s m 2 a = r at *
      generalize destR m 2 _ = dst at *
      simp (config := sc) (disch := try exact dd) [std]
      refine oc q1 ?_
      simp (config := sc) (disch := try exact dd) [std]
      refine oc q2 ?_
      simp (config := sc) (disch := try exact dd) [std, h3, h4, h5]
      refine oc q4 ?_
      simp (config := sc) (disch := try exact dd) [std]
      refine oc q5 ?_
      simp (config := sc) (disch := try exact dd) [std]
      refine oc q3 ?_
      simp (config := sc) (disch := try exact dd) [std]
      refine oc q7 ?_
      simp (config := sc) (disch := try exact dd) [std]
      refine oc q6 ?_
      simp (config := sc) (disch := try exact dd) [std]
      refine oc z1 ?_
      simp (config := sc) (disch := try exact dd) [std]
      refine oc z7 ?_
      simp (config := sc) (disch := try exact dd) [std, h5]
      refine oc z8 ?_
      simp (config := { sc with maxSteps := 1000000 }) (disch := try exact dd) [std]
   all_goals clear z7 z8 w8 hcm z1
   ·simp (config := sc) (disch := try exact dd) [std]
    refine oc q1 ?_
    simp (config := sc) (disch := try exact dd) [std]
    refine oc q2 ?_
    simp (config := sc) (disch := try exact dd) [std, h3, h4, h5]
    refine oc q4 ?_
    simp (config := sc) (disch := try exact dd) [std]
    refine oc q5 ?_
    simp (config := sc) (disch := try exact dd) [std]
    refine oc q3 ?_
    simp (config := sc) (disch := try exact dd) [std]
    refine oc q7 ?_
    simp (config := sc) (disch := try exact dd) [std]
    refine oc q6 ?_
    simp (config := sc) (disch := try exact dd) [std]
    refine oc z2 ?_
    simp (config := { sc with maxSteps := 1000000 }) (disch := try exact dd) [std]
   ·simp (config := sc) (disch := try exact dd) [std]
    refine oc q1 ?_
    simp (config := sc) (disch := try exact dd) [std]
    refine oc q2 ?_
    simp (config := sc) (disch := try exact dd) [std, h3, h4, h5]
    refine oc q4 ?_
    simp (config := sc) (disch := try exact dd) [std]
    refine oc q5 ?_
    simp (config := sc) (disch := try exact dd) [std]
    refine oc q3 ?_
    simp (config := sc) (disch := try exact dd) [std]
    refine oc q7 ?_
    simp (config := sc) (disch := try exact dd) [std]
    refine oc q6 ?_
    simp (config := sc) (disch := try exact dd) [std]
    refine oc z6 ?_
    simp (config := sc) (disch := try exact dd) [std]
    refine oc z3 ?_
    simp (config := { sc with maxSteps := 1000000 }) (disch := try exact dd) [std]
   ·simp (config := sc) (disch := try exact dd) [std]
    refine oc q1 ?_
    simp (config := sc) (disch := try exact dd) [std]
    refine oc q2 ?_
    simp (config := sc) (disch := try exact dd) [std, h3, h4, h5]
    refine oc q4 ?_
    simp (config := sc) (disch := try exact dd) [std]
    refine oc q5 ?_
    simp (config := sc) (disch := try exact dd) [std]
    refine oc q3 ?_
    simp (config := sc) (disch := try exact dd) [std]
    refine oc q7 ?_
    simp (config := sc) (disch := try exact dd) [std]
    refine oc q6 ?_
    simp (config := sc) (disch := try exact dd) [std]
    refine oc z4 ?_
    simp (config := { sc with maxSteps := 1000000 }) (disch := try exact dd) [std]
   ·by_cases hci : m.ci = 0
    ·simp (config := sc) (disch := try exact dd) [std]
     refine oc q1 ?_
     simp (config := sc) (disch := try exact dd) [std]
     refine oc q2 ?_
     simp (config := sc) (disch := try exact dd) [std, h3, h4, h5]
     refine oc q4 ?_
     simp (config := sc) (disch := try exact dd) [std]
     refine oc q5 ?_
     simp (config := sc) (disch := try exact dd) [std]
     refine oc q3 ?_
     simp (config := sc) (disch := try exact dd) [std]
     refine oc q7 ?_
     simp (config := sc) (disch := try exact dd) [std]
     refine oc q6 ?_
     simp (config := { sc with maxSteps := 1000000 }) (disch := try exact dd) [std, hci, ans0, msg0, le0]
    ·rw [if_neg hci]
     simp (config := sc) (disch := try exact dd) [std]
     refine oc q1 ?_
     simp (config := sc) (disch := try exact dd) [std]
     refine oc q2 ?_
     simp (config := sc) (disch := try exact dd) [std, h3, h4, h5]
     refine oc q4 ?_
     simp (config := sc) (disch := try exact dd) [std]
     refine oc q5 ?_
     simp (config := sc) (disch := try exact dd) [std]
     refine oc q3 ?_
     simp (config := sc) (disch := try exact dd) [std]
     refine oc q7 ?_
     simp (config := sc) (disch := try exact dd) [std]
     refine oc q6 ?_
     simp (config := sc) (disch := try exact dd) [std, hci]
     refine oc z5 ?_
     simp (config := { sc with maxSteps := 1000000 }) (disch := try exact dd) [std]
   all_goals
    simp (config := sc) (disch := try exact dd) [std]
    refine oc q1 ?_
    simp (config := sc) (disch := try exact dd) [std]
    refine oc q2 ?_
    simp (config := sc) (disch := try exact dd) [std, h3, h4, h5]
    refine oc q4 ?_
    simp (config := sc) (disch := try exact dd) [std]
    refine oc q5 ?_
    simp (config := sc) (disch := try exact dd) [std]
    refine oc q3 ?_
    simp (config := sc) (disch := try exact dd) [std]
    refine oc q7 ?_
    simp (config := sc) (disch := try exact dd) [std]
    refine oc q6 ?_
    simp (config := { sc with maxSteps := 1000000 }) (disch := try exact dd) [std, ans0, msg0, le0]
theorem ref19Same (a : AnsR) (hl : a.reply.opts.length ≤ 9223372036854775807) : Holds Tryz.prog 12 [.d a.d, .d a.d] (.d (.bool true)) (fun _ => false) := by
 refine Holds.by (by kernel_rfl) Tryz.func12 (by kernel_rfl) rfl [20002, 20003] (by simp) (by kernel_rfl) (by kernel_rfl) rfl ?_
 conv in ccs _ => cbv
 have q := ref04Same a.reply hl
 simp (config := sc) (disch := try exact dd) [std]
 refine oc q ?_
 simp (config := { sc with maxSteps := 1000000 }) (disch := try exact dd) [std]
theorem law19As (a : AnsR) : Holds Tryz.prog 13 [.d a.d] (.d a.d) (fun _ => false) := by
 refine Holds.by (by kernel_rfl) Tryz.func13 (by kernel_rfl) rfl [20001] (by simp) (by kernel_rfl) (by kernel_rfl) rfl ?_
 conv in ccs _ => cbv
 have q := lawAsM a.reply
 simp (config := sc) (disch := try exact dd) [std]
 refine oc q ?_
 simp (config := { sc with maxSteps := 1000000 }) (disch := try exact dd) [std]
end Go.Proofs.YtnkmlhlegndlhaaGreat
