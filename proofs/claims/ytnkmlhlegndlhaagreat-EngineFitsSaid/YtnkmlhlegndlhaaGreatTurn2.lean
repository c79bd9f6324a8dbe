/- What becomes of a message: the program's engine, second part. -/
import Derived.Test.YtnkmlhlegndlhaaGreatTurn
namespace Go.Proofs.YtnkmlhlegndlhaaGreat
open BoEng Go
set_option maxRecDepth 100000
attribute [-simp] List.map_take List.map_drop List.length_flatMap
set_option linter.unusedSimpArgs false
set_option linter.unusedVariables false
theorem choose_right {u : TurnR} {want a : Int} (h : chooseS u.c u.t u.net u.k want u.now = some a) : rightA a = true := by
 obtain ⟨x, hx, _⟩ := may_in (choose_may h)
 exact find_right hx
theorem right0 : rightA 0 = true := by decide
theorem turnNak (u : TurnR) (ok : TOk u) : Holds Tryz.prog 103 [.cptr (turnC u)] (.d (nakS u).d) (fun _ => false) := by
 refine Holds.by (by kernel_rfl) Tryz.func103 (by kernel_rfl) rfl [] (by simp) (by kernel_rfl) (by kernel_rfl) rfl ?_
 conv in ccs _ => cbv
 have q := turnSend u ok 6 0 rfl right0 false le0
 unfold nakS
 generalize sentR u 6 0 false le0 = r at *
 generalize turnC u = C at *
 simp (config := sc) (disch := try exact dd) [std]
 refine oc q ?_
 simp (config := { sc with maxSteps := 1000000 }) (disch := try exact dd) [std]
theorem turnInform (u : TurnR) (ok : TOk u) : Holds Tryz.prog 47 [.cptr (turnC u)] (.d (informS u).d) (fun _ => false) := by
 refine Holds.by (by kernel_rfl) Tryz.func47 (by kernel_rfl) rfl [] (by simp) (by kernel_rfl) (by kernel_rfl) rfl ?_
 conv in ccs _ => cbv
 have q := turnSend u ok 5 0 rfl right0 false le0
 unfold informS
 generalize sentR u 5 0 false le0 = r at *
 rw [turnC_eq] at *
 by_cases h : u.m.ci = 0
 ·simp (config := sc) (disch := try exact dd) [std, h, ans0, msg0, le0]
 ·simp (config := sc) (disch := try exact dd) [std, h]
  refine oc q ?_
  simp (config := { sc with maxSteps := 1000000 }) (disch := try exact dd) [std]
theorem turnDiscover (u : TurnR) (ok : TOk u) : Holds Tryz.prog 43 [.cptr (turnC u)] (.d (discoverS u).d) (fun _ => false) := by
 refine Holds.by (by kernel_rfl) Tryz.func43 (by kernel_rfl) rfl [] (by simp) (by kernel_rfl) (by kernel_rfl) rfl ?_
 conv in ccs _ => cbv
 have q1 := turnWanted u ok
 have q2 := allocChoose u.c u.t u.net u.k (wantU u) u.now ok.hc ok.ht (by have := ok.kl; omega)
 unfold discoverS
 cases h : chooseS u.c u.t u.net u.k (wantU u) u.now with
 | none =>
   rw [h] at q2
   rw [turnC_eq] at *
   simp (config := sc) (disch := try exact dd) [std]
   refine oc q1 ?_
   simp (config := sc) (disch := try exact dd) [std]
   refine oc q2 ?_
   simp (config := sc) (disch := try exact dd) [std, ans0, msg0, le0]
 | some a =>
   rw [h] at q2
   have q3 := turnSend u ok 2 a rfl (choose_right h) false le0
   dsimp only
   generalize sentR u 2 a false le0 = r at *
   rw [turnC_eq] at *
   simp (config := sc) (disch := try exact dd) [std]
   refine oc q1 ?_
   simp (config := sc) (disch := try exact dd) [std]
   refine oc q2 ?_
   simp (config := sc) (disch := try exact dd) [std]
   refine oc q3 ?_
   simp (config := { sc with maxSteps := 1000000 }) (disch := try exact dd) [std]
theorem spot_at {c : Cfg} {x : Spot} (h : x ∈ rightC c) : ∃ (hn : x.net < c.nets.length) (hk : x.sub < c.nets[x.net].subs.length), c.nets[x.net].subs[x.sub] = x.s := by
 unfold rightC at h
 split at h
 ·obtain ⟨n, N, h1, h2, h3⟩ := spotsF_sub 0 c.nets x h
  rw [Nat.zero_add] at h1
  subst h1
  obtain ⟨hn, rfl⟩ := List.getElem?_eq_some_iff.1 h2
  obtain ⟨hk, h4⟩ := List.getElem?_eq_some_iff.1 h3
  exact ⟨hn, hk, h4⟩
 ·cases h
theorem spot_time {c : Cfg} {x : Spot} (h : x ∈ rightC c) : 1 ≤ x.s.time ∧ x.s.time ≤ 2147483648 := by
 have hk := (spot_subC h).1
 have hr : rightC c = spotsS c := if_pos hk
 rw [hr] at h
 obtain ⟨hf, _, _⟩ := check_parts hk
 simp only [formS, Bool.and_eq_true, List.all_eq_true] at hf
 have h1 := hf.2 x h
 simp only [fairX, fairS, Bool.and_eq_true] at h1
 exact of_decide_eq_true h1.1.1.2
theorem prob_rng {c : Cfg} (hk : checkS c = 0) : 1 ≤ c.probation ∧ c.probation ≤ 2147483648 := by
 obtain ⟨hf, _, _⟩ := check_parts hk
 simp only [formS, Bool.and_eq_true] at hf
 exact of_decide_eq_true hf.1.1.1.2
theorem turnGive (u : TurnR) (ok : TOk u) (a : Int) (hi : mayS u.c u.t u.net u.k u.now a = true) : Holds Tryz.prog 104 [.cptr (turnC u), .d (.int .i64 a)] (.d (giveS u a).d) (fun _ => false) := by
 refine Holds.by (by kernel_rfl) Tryz.func104 (by kernel_rfl) rfl [50027, 50029, 50031, 50033, 50035, 50040] (by simp) (by kernel_rfl) (by kernel_rfl) rfl ?_
 conv in ccs _ => cbv
 obtain ⟨x, hf, hx, h0⟩ := may_in hi
 have hm := (find_has hf).2
 obtain ⟨hn, hk, hs⟩ := spot_at hm
 have ht := spot_time hm
 have ha := find_right hf
 have q1 := confFind u.c a ok.hc
 rw [hf, foundD_s] at q1
 have hn' : (x.net : Int) < u.c.nets.length := by omega
 have hk' : (x.sub : Int) < u.c.nets[x.net].subs.length := by omega
 have hso := ok.hc.1
 have hno := (ok.hc.2 _ (List.getElem_mem hn)).1
 have hend : giveL u a = ⟨a, 1, endS u.now x.s.time, u.k⟩ := by
  have : a ≠ 0 := by omega
  simp [giveL, subOf, hf, this]
 have q2 := turnEnd u ok x.s.time (by omega)
 have q3 := tableSet u.t (giveL u a) ok.ht.l ok.ht.k (by have := ok.kl; simp [giveL]; omega)
 have q4 := turnSend u ok 5 a rfl ha true (giveL u a)
 unfold giveS
 rw [hend] at q3 q4 ⊢
 generalize sentR u 5 a true _ = r at *
 generalize endS u.now x.s.time = en at *
 generalize hsv : setT u.t _ = sv at *
 clear hsv
 rw [turnC_eq] at *
 by_cases he : sv.2 = 0
 ·rw [if_pos he]
  rw [he] at q3
  simp (config := sc) (disch := try exact dd) [std, hn', hk', hs]
  refine oc q1 ?_
  simp (config := sc) (disch := try exact dd) [std, hn', hk', hs]
  refine oc q2 ?_
  simp (config := sc) (disch := try exact dd) [std, hn', hk', hs]
  refine oc q3 ?_
  simp (config := sc) (disch := try exact dd) [std, hn', hk', hs]
  refine oc q4 ?_
  simp (config := { sc with maxSteps := 1000000 }) (disch := try exact dd) [std]
 ·rw [if_neg he]
  simp (config := sc) (disch := try exact dd) [std, hn', hk', hs]
  refine oc q1 ?_
  simp (config := sc) (disch := try exact dd) [std, hn', hk', hs]
  refine oc q2 ?_
  simp (config := sc) (disch := try exact dd) [std, hn', hk', hs]
  refine oc q3 ?_
  simp (config := sc) (disch := try exact dd) [std, he, ans0, msg0, le0]
theorem turnMine (u : TurnR) (ok : TOk u) (a : Int) : Holds Tryz.prog 105 [.cptr (turnC u), .d (.int .i64 a)] (.tup [.d (getT u.t a).1.d, .d (.bool (mineS u a))]) (fun _ => false) := by
 refine Holds.by (by kernel_rfl) Tryz.func105 (by kernel_rfl) rfl [] (by simp) (by kernel_rfl) (by kernel_rfl) rfl ?_
 conv in ccs _ => cbv
 have q1 := tableGet u.t a ok.ht.l ok.ht.k
 have q2 := tableHolds (getT u.t a).1 u.now
 unfold mineS
 rw [turnC_eq]
 generalize (getT u.t a).1 = l at *
 generalize (getT u.t a).2 = b at *
 generalize hh : holdsL u.now l = h at *
 cases b with
 | false =>
   simp (config := sc) (disch := try exact dd) [std]
   refine oc q1 ?_
   simp (config := sc) (disch := try exact dd) [std, LeaseR.d]
 | true =>
   by_cases hk : l.key = u.k
   ·simp (config := sc) (disch := try exact dd) [std]
    refine oc q1 ?_
    simp (config := sc) (disch := try exact dd) [std, hk, LeaseR.d]
    refine oc (by simpa [LeaseR.d, hk] using q2) ?_
    simp (config := sc) (disch := try exact dd) [std, hk, LeaseR.d]
   ·simp (config := sc) (disch := try exact dd) [std]
    refine oc q1 ?_
    simp (config := sc) (disch := try exact dd) [std, hk, LeaseR.d]
theorem getT_addr {t : List LeaseR} {a : Int} (h : (getT t a).2 = true) : (getT t a).1.addr = a := (getT_spec h).2
theorem turnDecline (u : TurnR) (ok : TOk u) : Holds Tryz.prog 45 [.cptr (turnC u)] (.d (declineS u).d) (fun _ => false) := by
 refine Holds.by (by kernel_rfl) Tryz.func45 (by kernel_rfl) rfl [] (by simp) (by kernel_rfl) (by kernel_rfl) rfl ?_
 conv in ccs _ => cbv
 have q1 := turnWanted u ok
 have q2 := turnMine u ok (wantU u)
 have q3 := turnEnd u ok u.c.probation (by have := prob_rng ok.chk; omega)
 unfold declineS endedS
 generalize endS u.now u.c.probation = en at *
 cases hm : mineS u (wantU u) with
 | false =>
   rw [hm] at q2
   generalize (getT u.t (wantU u)).1 = l at *
   rw [turnC_eq] at *
   simp (config := sc) (disch := try exact dd) [std]
   refine oc q1 ?_
   simp (config := sc) (disch := try exact dd) [std]
   refine oc q2 ?_
   simp (config := sc) (disch := try exact dd) [std, ans0, msg0, le0]
 | true =>
   rw [hm] at q2
   simp only [mineS, Bool.and_eq_true, decide_eq_true_eq] at hm
   have hadr := getT_addr hm.1.1
   have hky := hm.1.2
   clear hm
   generalize (getT u.t (wantU u)).1 = l at *
   rw [turnC_eq] at *
   simp (config := sc) (disch := try exact dd) [std]
   refine oc q1 ?_
   simp (config := sc) (disch := try exact dd) [std]
   refine oc q2 ?_
   simp (config := sc) (disch := try exact dd) [std]
   refine oc q3 ?_
   simp (config := { sc with maxSteps := 1000000 }) (disch := try exact dd) [std, keptR, msg0, hadr, hky]
theorem turnRelease (u : TurnR) (ok : TOk u) : Holds Tryz.prog 46 [.cptr (turnC u)] (.d (releaseS u).d) (fun _ => false) := by
 refine Holds.by (by kernel_rfl) Tryz.func46 (by kernel_rfl) rfl [50011, 50021] (by simp) (by kernel_rfl) (by kernel_rfl) rfl ?_
 conv in ccs _ => cbv
 have q2 := turnMine u ok u.m.ci
 unfold releaseS endedS
 cases hm : mineS u u.m.ci with
 | false =>
   rw [hm] at q2
   generalize (getT u.t u.m.ci).1 = l at *
   rw [turnC_eq] at *
   simp (config := sc) (disch := try exact dd) [std]
   refine oc q2 ?_
   simp (config := sc) (disch := try exact dd) [std, ans0, msg0, le0]
 | true =>
   rw [hm] at q2
   simp only [mineS, Bool.and_eq_true, decide_eq_true_eq] at hm
   have hadr := getT_addr hm.1.1
   have hky := hm.1.2
   clear hm
   generalize (getT u.t u.m.ci).1 = l at *
   rw [turnC_eq] at *
   simp (config := sc) (disch := try exact dd) [std]
   refine oc q2 ?_
   simp (config := { sc with maxSteps := 1000000 }) (disch := try exact dd) [std, keptR, msg0, hadr, hky]
end Go.Proofs.YtnkmlhlegndlhaaGreat
