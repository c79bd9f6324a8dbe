/- Which address a client may have: what alloc and the document's layer 15 answer. -/
import Derived.Test.YtnkmlhlegndlhaaGreatAlloc
namespace Go.Proofs.YtnkmlhlegndlhaaGreat
open BoEng Go
set_option maxRecDepth 100000
attribute [-simp] List.map_take List.map_drop List.length_flatMap
set_option linter.unusedSimpArgs false
set_option linter.unusedVariables false
structure TSz (t : List LeaseR) : Prop where
 l : t.length ≤ 1000000
 k : ∀ l ∈ t, l.key.length ≤ 9223372036854775807
theorem fair_parts {c : Cfg} {t : List LeaseR} {n : Int} {k : List UInt8} (h : fairN c t n k = true) : checkS c = 0 ∧ tableR t = true ∧ keyR k = true ∧ 0 ≤ n ∧ n < c.nets.length := by
 simp only [fairN, Bool.and_eq_true, decide_eq_true_eq] at h
 exact ⟨h.1.1.1, h.1.1.2, h.1.2, h.2⟩
theorem other_of {c : Cfg} {t : List LeaseR} {n : Int} {k : List UInt8} {a now : Int} (h : tableR t = true) : otherS c t n k a now = (ofT t k).any (badL c n a now) := by
 unfold otherS ofT
 rw [goodT_id h, List.any_filter]
def amI (c : Cfg) (t L : List LeaseR) (n : Int) (k : List UInt8) (a now : Int) (i : Nat) (S : PS) : Prop :=
 i ≤ L.length ∧ (L.take i).all (fun l => !badL c n a now l) = true ∧ S.t 1 = .d (.slice (t.map LeaseR.d)) ∧ S.t 2 = .d (.int .i64 n) ∧ S.t 3 = .d (.str k) ∧ S.t 4 = .d (.int .i64 a) ∧ S.t 5 = .d (.int .i64 now) ∧ S.t 6 = .cptr (cells c.d) ∧
 S.t 61 = .d (.slice (L.map LeaseR.d)) ∧ S.t 62 = .d (.int .i64 L.length) ∧ S.t 63 = .d (.int .i64 i)
set_option maxHeartbeats 8000000 in
theorem allocMay (c : Cfg) (t : List LeaseR) (n : Int) (k : List UInt8) (a now : Int) (hc : sizedC c) (ht : TSz t) (hkk : k.length ≤ 9223372036854775807) :
  Holds Tryz.prog 33 [.d c.d, .d (.slice (t.map LeaseR.d)), .d (.int .i64 n), .d (.str k), .d (.int .i64 a), .d (.int .i64 now)] (.d (.bool (mayS c t n k now a))) (fun _ => false) := by
 refine Holds.by (by kernel_rfl) Tryz.func33 (by kernel_rfl) rfl [20006] (by simp) (by kernel_rfl) (by kernel_rfl) rfl ?_
 conv in ccs _ => cbv
 have q1 := allocFair c t n k hc ht.l ht.k hkk
 have q2 := confKeptFor c n k hc
 have q3 := confKeeper c a hc
 have q4 := confInPool c n a hc
 have q5 := tableOf t k ht.l ht.k
 have q6 := tableFree t a k now ht.l ht.k
 have hoth := fun h => @other_of c t n k a now h
 have hlen : (ofT t k).length ≤ 64 := by
  have h1 := (tab_iff.1 (goodT_tab t)).1
  have h2 := List.length_filter_le (ofP k) (goodT t)
  unfold ofT
  omega
 unfold mayS reachS
 cases hf : fairN c t n k with
 | false =>
   rw [hf] at q1
   simp (config := sc) (disch := try exact dd) [std]
   refine oc q1 ?_
   simp (config := sc) (disch := try exact dd) [std]
 | true =>
 rw [hf] at q1
 rw [hoth (fair_parts hf).2.1]
 clear hoth
 generalize ofT t k = L at *
 generalize freeT t a k now = fr at *
 have hkp : decide (keptS c n k = some a) = ((keptS c n k).isSome && decide ((keptS c n k).getD 0 = a)) := by
  cases keptS c n k <;> simp
 have hkr : ownS c a k = (!(keeperS c a).isSome || decide ((keeperS c a).getD [] = k)) := by
  unfold ownS
  cases keeperS c a <;> simp
 rw [hkp, hkr]
 clear hkp hkr
 generalize (keptS c n k).isSome = kb at *
 generalize (keptS c n k).getD 0 = kv at *
 generalize (keeperS c a).isSome = pb at *
 generalize (keeperS c a).getD [] = pv at *
 generalize inPoolS c n a = ip at *
 have hw : (kb = true ∧ kv = a ∧ k = k) ∨ (kb = false ∧ a = a ∧ ip = false ∧ k = k) ∨ (kb = false ∧ ip = true ∧ pb = false) ∨ (kb = false ∧ ip = true ∧ pb = true ∧ pv = k) ∨ (kb = false ∧ ip = true ∧ pb = true ∧ pv ≠ k) ∨
   (kb = true ∧ kv ≠ a ∧ ip = false) ∨ (kb = true ∧ kv ≠ a ∧ ip = true ∧ pb = false) ∨ (kb = true ∧ kv ≠ a ∧ ip = true ∧ pb = true ∧ pv = k) ∨ (kb = true ∧ kv ≠ a ∧ ip = true ∧ pb = true ∧ pv ≠ k) := by
  cases kb <;> by_cases h1 : kv = a <;> cases ip <;> cases pb <;> by_cases h2 : pv = k <;> simp [h1, h2]
 have z1 : (a = a) := rfl
 rcases hw with ⟨rfl, h1, h2⟩ | ⟨rfl, h1, rfl, h2⟩ | ⟨rfl, rfl, rfl⟩ | ⟨rfl, rfl, rfl, h1⟩ | ⟨rfl, rfl, rfl, h1⟩ | ⟨rfl, h1, rfl⟩ | ⟨rfl, h1, rfl, rfl⟩ | ⟨rfl, h1, rfl, rfl, h2⟩ | ⟨rfl, h1, rfl, rfl, h2⟩ <;> (
  try simp only [ne_eq] at h1
  try simp only [ne_eq] at h2
  simp (config := sc) (disch := try exact dd) [std, *]
  refine oc q1 ?_
  simp (config := sc) (disch := try exact dd) [std, *]
  refine oc q2 ?_
  simp (config := sc) (disch := try exact dd) [std, *]
  refine oc q3 ?_
  simp (config := sc) (disch := try exact dd) [std, *]
  try refine oc q4 ?_
  try simp (config := sc) (disch := try exact dd) [std, *]
  try refine oc q5 ?_
  try simp (config := sc) (disch := try exact dd) [std, *])
 all_goals
  refine lp (amI c t L n k a now) (fun i => L.length - i) 0 ⟨by omega, by simp, by simp, by simp, by simp, by simp, by simp, by simp, by simp, by simp, by simp⟩ ?_
  rintro i S ⟨hi, ha, e1, e2, e3, e4, e5, e6, e61, e62, e63⟩
  by_cases hlt : i < L.length
  ·have k6 : (i : Int) < L.length := by omega
   have hn : nth L (i : Int) = L[i] := nth_nat hlt
   have hbad := allc_bad (p := fun l => !badL c n a now l) hlt
   have hstep := allc_step (p := fun l => !badL c n a now l) hlt ha
   have r1 := tableHolds L[i] now
   have r2 := allocIn c n L[i].addr hc
   have hdef : badL c n a now L[i] = (!decide (L[i].addr = a) && holdsL now L[i] && inN c n L[i].addr) := rfl
   have hany : L.all (fun l => !badL c n a now l) = false → L.any (badL c n a now) = true := fun h => by
    rw [List.all_eq_not_any_not] at h
    simpa using h
   rw [hdef] at hbad hstep
   clear hdef
   generalize inN c n L[i].addr = ib at *
   generalize holdsL now L[i] = hb at *
   generalize L[i] = x at *
   by_cases hxa : x.addr = a
   ·simp (config := sc) (disch := try exact dd) [std, e1, e2, e3, e4, e5, e6, e61, e62, e63, k6, hn, hxa]
    exact nxt_of (i + 1) ⟨by omega, hstep (by simp [hxa]), by simp (config := sc) (disch := try exact dd) [std, e1], by simp (config := sc) (disch := try exact dd) [std, e2], by simp (config := sc) (disch := try exact dd) [std, e3], by simp (config := sc) (disch := try exact dd) [std, e4], by simp (config := sc) (disch := try exact dd) [std, e5], by simp (config := sc) (disch := try exact dd) [std, e6], by simp (config := sc) (disch := try exact dd) [std, e61], by simp (config := sc) (disch := try exact dd) [std, e62], by simp (config := sc) (disch := try exact dd) [std]⟩ (by omega)
   ·cases hb with
    | false =>
      simp (config := sc) (disch := try exact dd) [std, e1, e2, e3, e4, e5, e6, e61, e62, e63, k6, hn, hxa]
      refine oc r1 ?_
      simp (config := sc) (disch := try exact dd) [std, e1, e2, e3, e4, e5, e6, e61, e62, e63]
      exact nxt_of (i + 1) ⟨by omega, hstep (by simp), by simp (config := sc) (disch := try exact dd) [std, e1], by simp (config := sc) (disch := try exact dd) [std, e2], by simp (config := sc) (disch := try exact dd) [std, e3], by simp (config := sc) (disch := try exact dd) [std, e4], by simp (config := sc) (disch := try exact dd) [std, e5], by simp (config := sc) (disch := try exact dd) [std, e6], by simp (config := sc) (disch := try exact dd) [std, e61], by simp (config := sc) (disch := try exact dd) [std, e62], by simp (config := sc) (disch := try exact dd) [std]⟩ (by omega)
    | true =>
      cases ib with
      | false =>
        simp (config := sc) (disch := try exact dd) [std, e1, e2, e3, e4, e5, e6, e61, e62, e63, k6, hn, hxa]
        refine oc r1 ?_
        simp (config := sc) (disch := try exact dd) [std, e1, e2, e3, e4, e5, e6, e61, e62, e63]
        refine oc r2 ?_
        simp (config := sc) (disch := try exact dd) [std, e1, e2, e3, e4, e5, e6, e61, e62, e63]
        exact nxt_of (i + 1) ⟨by omega, hstep (by simp), by simp (config := sc) (disch := try exact dd) [std, e1], by simp (config := sc) (disch := try exact dd) [std, e2], by simp (config := sc) (disch := try exact dd) [std, e3], by simp (config := sc) (disch := try exact dd) [std, e4], by simp (config := sc) (disch := try exact dd) [std, e5], by simp (config := sc) (disch := try exact dd) [std, e6], by simp (config := sc) (disch := try exact dd) [std, e61], by simp (config := sc) (disch := try exact dd) [std, e62], by simp (config := sc) (disch := try exact dd) [std]⟩ (by omega)
      | true =>
        have hz := hany (hbad (by simp [hxa]))
        simp (config := sc) (disch := try exact dd) [std, e1, e2, e3, e4, e5, e6, e61, e62, e63, k6, hn, hxa, hz]
        refine oc r1 ?_
        simp (config := sc) (disch := try exact dd) [std, e1, e2, e3, e4, e5, e6, e61, e62, e63, hz]
        refine oc r2 ?_
        simp (config := sc) (disch := try exact dd) [std, e1, e2, e3, e4, e5, e6, e61, e62, e63, hz]
  ·have k6 : ¬ (i : Int) < L.length := by omega
   have hz : L.any (badL c n a now) = false := by
    have := allc_end hlt ha
    rw [List.all_eq_not_any_not] at this
    simpa using this
   simp (config := sc) (disch := try exact dd) [std, e1, e2, e3, e4, e5, e6, e61, e62, e63, k6, hz]
   refine oc q6 ?_
   simp (config := sc) (disch := try exact dd) [std]
def roI (c : Cfg) (t : List LeaseR) (n : Int) (k : List UInt8) (a now : Int) (i : Nat) (S : PS) : Prop :=
 i ≤ t.length ∧ (t.take i).all (fun l => !(ofP k l && badL c n a now l)) = true ∧ S.t 1 = .d (.slice (t.map LeaseR.d)) ∧ S.t 2 = .d (.int .i64 n) ∧ S.t 3 = .d (.str k) ∧ S.t 4 = .d (.int .i64 a) ∧ S.t 5 = .d (.int .i64 now) ∧ S.t 6 = .cptr (cells c.d) ∧ S.t 13 = .d (.int .i64 i)
theorem ref15Other (c : Cfg) (t : List LeaseR) (n : Int) (k : List UInt8) (a now : Int) (hc : sizedC c) (ht : TSz t) :
  Holds Tryz.prog 59 [.d c.d, .d (.slice (t.map LeaseR.d)), .d (.int .i64 n), .d (.str k), .d (.int .i64 a), .d (.int .i64 now)] (.d (.bool (otherS c t n k a now))) (fun _ => false) := by
 refine Holds.by (by kernel_rfl) Tryz.func59 (by kernel_rfl) rfl [20006] (by simp) (by kernel_rfl) (by kernel_rfl) rfl ?_
 conv in ccs _ => cbv
 have hl := ht.l
 simp (config := sc) (disch := try exact dd) [std]
 refine lp (roI c t n k a now) (fun i => t.length - i) 0 ⟨by omega, by simp, by simp, by simp, by simp, by simp, by simp, by simp, by simp⟩ ?_
 rintro i S ⟨hi, ha, e1, e2, e3, e4, e5, e6, e13⟩
 by_cases hlt : i < t.length
 ·have k6 : (i : Int) < t.length := by omega
  have hn : nth t (i : Int) = t[i] := nth_nat hlt
  have hbad := allc_bad (p := fun l => !(ofP k l && badL c n a now l)) hlt
  have hstep := allc_step (p := fun l => !(ofP k l && badL c n a now l)) hlt ha
  have r1 := ref12Holds t[i] now
  have r2 := ref15In c n t[i].addr hc
  have hdef : (ofP k t[i] && badL c n a now t[i]) = (decide (t[i].key = k) && (!decide (t[i].addr = a) && holdsL now t[i] && inN c n t[i].addr)) := rfl
  have hany : t.all (fun l => !(ofP k l && badL c n a now l)) = false → otherS c t n k a now = true := fun h => by
   rw [List.all_eq_not_any_not] at h
   simpa [otherS] using h
  rw [hdef] at hbad hstep
  clear hdef
  generalize inN c n t[i].addr = ib at *
  generalize holdsL now t[i] = hb at *
  generalize t[i] = x at *
  by_cases hxk : x.key = k
  ·have hxd : x.d = .agg [.int .i64 x.addr, .int .i64 x.state, .int .i64 x.expiry, .str k] := by simp [LeaseR.d, hxk]
   rw [hxd] at r1
   clear hxd
   by_cases hxa : x.addr = a
   ·simp (config := sc) (disch := try exact dd) [std, e1, e2, e3, e4, e5, e6, e13, k6, hn, hxk, hxa]
    exact nxt_of (i + 1) ⟨by omega, hstep (by simp [hxa]), by simp (config := sc) (disch := try exact dd) [std, e1], by simp (config := sc) (disch := try exact dd) [std, e2], by simp (config := sc) (disch := try exact dd) [std, e3], by simp (config := sc) (disch := try exact dd) [std, e4], by simp (config := sc) (disch := try exact dd) [std, e5], by simp (config := sc) (disch := try exact dd) [std, e6], by simp (config := sc) (disch := try exact dd) [std]⟩ (by omega)
   ·cases hb with
    | false =>
      simp (config := sc) (disch := try exact dd) [std, e1, e2, e3, e4, e5, e6, e13, k6, hn, hxk, hxa]
      refine oc r1 ?_
      simp (config := sc) (disch := try exact dd) [std, e1, e2, e3, e4, e5, e6, e13, hn]
      exact nxt_of (i + 1) ⟨by omega, hstep (by simp), by simp (config := sc) (disch := try exact dd) [std, e1], by simp (config := sc) (disch := try exact dd) [std, e2], by simp (config := sc) (disch := try exact dd) [std, e3], by simp (config := sc) (disch := try exact dd) [std, e4], by simp (config := sc) (disch := try exact dd) [std, e5], by simp (config := sc) (disch := try exact dd) [std, e6], by simp (config := sc) (disch := try exact dd) [std]⟩ (by omega)
    | true =>
      cases ib with
      | false =>
        simp (config := sc) (disch := try exact dd) [std, e1, e2, e3, e4, e5, e6, e13, k6, hn, hxk, hxa]
        refine oc r1 ?_
        simp (config := sc) (disch := try exact dd) [std, e1, e2, e3, e4, e5, e6, e13, k6, hn]
        refine oc r2 ?_
        simp (config := sc) (disch := try exact dd) [std, e1, e2, e3, e4, e5, e6, e13]
        exact nxt_of (i + 1) ⟨by omega, hstep (by simp), by simp (config := sc) (disch := try exact dd) [std, e1], by simp (config := sc) (disch := try exact dd) [std, e2], by simp (config := sc) (disch := try exact dd) [std, e3], by simp (config := sc) (disch := try exact dd) [std, e4], by simp (config := sc) (disch := try exact dd) [std, e5], by simp (config := sc) (disch := try exact dd) [std, e6], by simp (config := sc) (disch := try exact dd) [std]⟩ (by omega)
      | true =>
        have hz := hany (hbad (by simp [hxa, hxk]))
        rw [hz]
        simp (config := sc) (disch := try exact dd) [std, e1, e2, e3, e4, e5, e6, e13, k6, hn, hxk, hxa]
        refine oc r1 ?_
        simp (config := sc) (disch := try exact dd) [std, e1, e2, e3, e4, e5, e6, e13, k6, hn]
        refine oc r2 ?_
        simp (config := sc) (disch := try exact dd) [std, e1, e2, e3, e4, e5, e6, e13]
  ·simp (config := sc) (disch := try exact dd) [std, e1, e2, e3, e4, e5, e6, e13, k6, hn, hxk]
   exact nxt_of (i + 1) ⟨by omega, hstep (by simp [hxk]), by simp (config := sc) (disch := try exact dd) [std, e1], by simp (config := sc) (disch := try exact dd) [std, e2], by simp (config := sc) (disch := try exact dd) [std, e3], by simp (config := sc) (disch := try exact dd) [std, e4], by simp (config := sc) (disch := try exact dd) [std, e5], by simp (config := sc) (disch := try exact dd) [std, e6], by simp (config := sc) (disch := try exact dd) [std]⟩ (by omega)
 ·have k6 : ¬ (i : Int) < t.length := by omega
  have hz : otherS c t n k a now = false := by
   have := allc_end hlt ha
   rw [List.all_eq_not_any_not] at this
   simpa [otherS] using this
  rw [hz]
  simp (config := sc) (disch := try exact dd) [std, e1, e2, e3, e4, e5, e6, e13, k6]
set_option maxHeartbeats 8000000 in
theorem ref15May (c : Cfg) (t : List LeaseR) (n : Int) (k : List UInt8) (a now : Int) (hc : sizedC c) (ht : TSz t) (hkk : k.length ≤ 9223372036854775807) :
  Holds Tryz.prog 19 [.d c.d, .d (.slice (t.map LeaseR.d)), .d (.int .i64 n), .d (.str k), .d (.int .i64 a), .d (.int .i64 now)] (.d (.bool (mayS c t n k now a))) (fun _ => false) := by
 refine Holds.by (by kernel_rfl) Tryz.func19 (by kernel_rfl) rfl [20006] (by simp) (by kernel_rfl) (by kernel_rfl) rfl ?_
 conv in ccs _ => cbv
 have q1 := ref15Fair c t n k hc ht.l ht.k hkk
 have q2 := ref13KeptFor c n k hc
 have q3 := ref13Keeper c a hc
 have q4 := ref13InPool c n a hc
 have q5 := ref15Other c t n k a now hc ht
 have q6 := ref12Free t a k now ht.l ht.k
 unfold mayS reachS
 generalize fairN c t n k = ff at *
 generalize otherS c t n k a now = ot at *
 generalize freeT t a k now = fr at *
 have hkp : decide (keptS c n k = some a) = ((keptS c n k).isSome && decide ((keptS c n k).getD 0 = a)) := by
  cases keptS c n k <;> simp
 have hkr : ownS c a k = (!(keeperS c a).isSome || decide ((keeperS c a).getD [] = k)) := by
  unfold ownS
  cases keeperS c a <;> simp
 rw [hkp, hkr]
 clear hkp hkr
 generalize (keptS c n k).isSome = kb at *
 generalize (keptS c n k).getD 0 = kv at *
 generalize (keeperS c a).isSome = pb at *
 generalize (keeperS c a).getD [] = pv at *
 generalize inPoolS c n a = ip at *
 cases ff with
 | false =>
   simp (config := sc) (disch := try exact dd) [std]
   refine oc q1 ?_
   simp (config := sc) (disch := try exact dd) [std]
 | true =>
 cases ot with
 | true =>
   simp (config := sc) (disch := try exact dd) [std]
   refine oc q1 ?_
   simp (config := sc) (disch := try exact dd) [std]
   refine oc q5 ?_
   simp (config := sc) (disch := try exact dd) [std]
 | false =>
 cases fr with
 | false =>
   simp (config := sc) (disch := try exact dd) [std]
   refine oc q1 ?_
   simp (config := sc) (disch := try exact dd) [std]
   refine oc q5 ?_
   simp (config := sc) (disch := try exact dd) [std]
   refine oc q6 ?_
   simp (config := sc) (disch := try exact dd) [std]
 | true =>
 have hw : (kb = true ∧ kv = a ∧ k = k) ∨ (kb = false ∧ a = a ∧ ip = false ∧ k = k) ∨ (kb = false ∧ ip = true ∧ pb = false) ∨ (kb = false ∧ ip = true ∧ pb = true ∧ pv = k) ∨ (kb = false ∧ ip = true ∧ pb = true ∧ pv ≠ k) ∨
   (kb = true ∧ kv ≠ a ∧ ip = false) ∨ (kb = true ∧ kv ≠ a ∧ ip = true ∧ pb = false) ∨ (kb = true ∧ kv ≠ a ∧ ip = true ∧ pb = true ∧ pv = k) ∨ (kb = true ∧ kv ≠ a ∧ ip = true ∧ pb = true ∧ pv ≠ k) := by
  cases kb <;> by_cases h1 : kv = a <;> cases ip <;> cases pb <;> by_cases h2 : pv = k <;> simp [h1, h2]
 rcases hw with ⟨rfl, h1, h2⟩ | ⟨rfl, h1, rfl, h2⟩ | ⟨rfl, rfl, rfl⟩ | ⟨rfl, rfl, rfl, h1⟩ | ⟨rfl, rfl, rfl, h1⟩ | ⟨rfl, h1, rfl⟩ | ⟨rfl, h1, rfl, rfl⟩ | ⟨rfl, h1, rfl, rfl, h2⟩ | ⟨rfl, h1, rfl, rfl, h2⟩ <;> (
  try simp only [ne_eq] at h1
  try simp only [ne_eq] at h2
  try have h1' := fun e => h1 (Eq.symm e)
  simp (config := sc) (disch := try exact dd) [std, *]
  refine oc q1 ?_
  simp (config := sc) (disch := try exact dd) [std, *]
  refine oc q5 ?_
  simp (config := sc) (disch := try exact dd) [std, *]
  refine oc q6 ?_
  simp (config := sc) (disch := try exact dd) [std, *]
  refine oc q2 ?_
  simp (config := sc) (disch := try exact dd) [std, *]
  try refine oc q3 ?_
  try simp (config := sc) (disch := try exact dd) [std, *]
  try refine oc q4 ?_
  try simp (config := sc) (disch := try exact dd) [std, *])
end Go.Proofs.YtnkmlhlegndlhaaGreat
