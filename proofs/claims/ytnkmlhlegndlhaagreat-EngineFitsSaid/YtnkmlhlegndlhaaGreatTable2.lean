/- Tables of leases, second part: a lease is set; the document's answers. -/
import Derived.Test.YtnkmlhlegndlhaaGreatTable
namespace Go.Proofs.YtnkmlhlegndlhaaGreat
open BoEng Go
set_option maxRecDepth 100000
attribute [-simp] List.map_take List.map_drop List.length_flatMap
set_option linter.unusedSimpArgs false
set_option linter.unusedVariables false
theorem insL_nil (l : LeaseR) : insL [] l = [l] := by simp [insL, isA, posA]
theorem tableSet (t : List LeaseR) (l : LeaseR) (ht : t.length ≤ 1000000) (hk : ∀ l ∈ t, l.key.length ≤ 9223372036854775807) (hl : l.key.length ≤ 9223372036854775807) :
  Holds Tryz.prog 29 [.d (.slice (t.map LeaseR.d)), .d l.d] (.tup [.d (.slice ((setT t l).1.map LeaseR.d)), .d (.int .i64 (setT t l).2)]) (fun _ => false) := by
 refine Holds.by (by kernel_rfl) Tryz.func29 (by kernel_rfl) rfl [20003, 40010, 40018, 30034, 10041, 10043] (by simp) (by kernel_rfl) (by kernel_rfl) rfl ?_
 conv in ccs _ => cbv
 have q2 := recordRight l hl
 unfold setT
 cases hr : tableR t with
 | false =>
   have q1 := fun gl => tableGoodN t ht hk hr (fo := FO + 1000) (gl := gl)
   have hg : goodT t = [] := by unfold goodT; rw [if_neg (by rw [hr]; decide)]
   rw [hg]
   cases hrl : rightL l with
   | false =>
     rw [hrl] at q2
     rw [if_pos rfl]
     simp (config := sc) (disch := try exact dd) [std, LeaseR.d]
     refine o_cb (FO + 1000) rfl rfl (q1 _) rfl (by simp (config := sc) (disch := try exact dd) [std]) ?_
     simp (config := sc) (disch := try exact dd) [std, LeaseR.d]
     refine oc q2 ?_
     simp (config := sc) (disch := try exact dd) [std, LeaseR.d]
   | true =>
     rw [hrl] at q2
     rw [if_neg (by simp), if_neg (by simp), insL_nil]
     have q3 := fun gl => tablePlace0 l.addr (fo := FO + 1000) (gl := gl)
     simp (config := sc) (disch := try exact dd) [std, LeaseR.d]
     refine o_cb (FO + 1000) rfl rfl (q1 _) rfl (by simp (config := sc) (disch := try exact dd) [std]) ?_
     simp (config := sc) (disch := try exact dd) [std, LeaseR.d]
     refine oc q2 ?_
     simp (config := sc) (disch := try exact dd) [std, LeaseR.d]
     refine o_cb (FO + 1000) rfl rfl (q3 _) rfl (by simp (config := sc) (disch := try exact dd) [std]) ?_
     simp (config := sc) (disch := try exact dd) [std, LeaseR.d, flat_cons, flat_nil, thawB, chunk]
     done
 | true =>
   have q1 := fun gl => tableGoodB t ht hk hr (fo := FO + 1000) (gl := gl)
   rw [goodT_id hr]
   obtain ⟨h64, _, hsrt⟩ := tab_iff.1 hr
   cases hrl : rightL l with
   | false =>
     rw [hrl] at q2
     rw [if_pos rfl]
     simp (config := sc) (disch := try exact dd) [std, LeaseR.d]
     refine o_cb (FO + 1000) rfl rfl (q1 _) rfl (by simp (config := sc) (disch := try exact dd) [std]) ?_
     simp (config := sc) (disch := try exact dd) [std, LeaseR.d, lU]
     refine oc q2 ?_
     simp (config := sc) (disch := try exact dd) [std, LeaseR.d, lU]
   | true =>
     rw [hrl] at q2
     rw [if_neg (by simp)]
     have q3 := fun g hg gl => tablePlaceB t l.addr (by omega) hsrt (FO + 1000 + 8) g (fo := FO + 2000) (gl := gl) (by omega) hg
     have hpl := posA_le t l.addr
     have hFO : FO + 1000 + 8 = FO + 1008 := rfl
     cases hia : isA t l.addr with
     | true =>
       obtain ⟨hp, _⟩ := isA_pos hia
       rw [if_neg (by simp)]
       rw [hia] at q3
       have hins : insL t l = t.set (posA t l.addr) l := by unfold insL; rw [if_pos hia]
       rw [hins]
       have hset := lBox_set hp l
       have hbl : posA t l.addr * 4 + 4 ≤ (lBox t).length := by rw [lBox_len]; omega
       have hth := lBox_thaw (xs := t.set (posA t l.addr) l) (n := t.length) (by simp)
       generalize posA t l.addr = p at *
       simp (config := sc) (disch := try exact dd) [std, LeaseR.d]
       refine o_cb (FO + 1000) rfl rfl (q1 _) rfl (by simp (config := sc) (disch := try exact dd) [std]) ?_
       simp (config := sc) (disch := try exact dd) [std, LeaseR.d, lU]
       refine oc q2 ?_
       simp (config := sc) (disch := try exact dd) [std, LeaseR.d, lU]
       refine o_cb (FO + 2000) rfl rfl (q3 _ (by omega) _) rfl (by simp (config := sc) (disch := try exact dd) [std, lU]) ?_
       simp (config := sc) (disch := try exact dd) [std, LeaseR.d, lU, hp, hbl, hset, thawB, hth]
       done
     | false =>
       rw [hia] at q3
       by_cases hc : t.length = 64
       ·rw [if_pos ⟨rfl, hc⟩]
        have hc' : (t.length : Int) = 64 := by omega
        simp (config := sc) (disch := try exact dd) [std, LeaseR.d]
        refine o_cb (FO + 1000) rfl rfl (q1 _) rfl (by simp (config := sc) (disch := try exact dd) [std]) ?_
        simp (config := sc) (disch := try exact dd) [std, LeaseR.d, lU]
        refine oc q2 ?_
        simp (config := sc) (disch := try exact dd) [std, LeaseR.d, lU]
        refine o_cb (FO + 2000) rfl rfl (q3 _ (by omega) _) rfl (by simp (config := sc) (disch := try exact dd) [std, lU]) ?_
        simp (config := sc) (disch := try exact dd) [std, LeaseR.d, lU, hc']
        done
       ·rw [if_neg (fun h => hc h.2)]
        have hc' : ¬ (t.length : Int) = 64 := by omega
        have hins : insL t l = t.take (posA t l.addr) ++ l :: t.drop (posA t l.addr) := by unfold insL; rw [if_neg (by rw [hia]; decide)]
        rw [hins]
        have hpart := lBox_part (xs := t) (lo := posA t l.addr) (n := t.length - posA t l.addr) (by omega)
        have hdl : (t.drop (posA t l.addr)).take (t.length - posA t l.addr) = t.drop (posA t l.addr) := List.take_of_length_le (by simp)
        have hW : ∀ g, thawW g (lBox t) g (posA t l.addr) (t.length - posA t l.addr) 4 true = some ((t.drop (posA t l.addr)).map LeaseR.d) := fun g => by
         unfold thawW
         rw [if_pos ⟨rfl, by rw [lBox_len]; omega, by simp⟩, hpart, hdl]
        have hth := lBox_thaw (xs := t.take (posA t l.addr) ++ l :: t.drop (posA t l.addr)) rfl
        rw [lBox_app, lBox_cons, ← lBox_take] at hth
        have hlen : (t.take (posA t l.addr) ++ l :: t.drop (posA t l.addr)).length = posA t l.addr + 1 + (t.length - posA t l.addr) := by simp; omega
        rw [hlen] at hth
        generalize posA t l.addr = p at *
        have hfl : (flat ((t.drop p).map LeaseR.d)).length = (t.length - p) * 4 := by
         have := lBox_len (t.drop p)
         rw [List.length_drop] at this
         rw [← this]
         simp [lBox]
        have hbx : (flat ((t.drop p).map LeaseR.d)).map PV.d = lBox (t.drop p) := rfl
        have hi1 : (p + 1 + (t.length - p)) * 4 ≤ p * 4 + ((t.length - p) * 4 + 1 + 1 + 1 + 1) := by omega
        have hi2 : p * 4 + ((t.length - p) * 4 + 1 + 1 + 1 + 1) = (p + 1 + (t.length - p)) * 4 := by omega
        simp (config := sc) (disch := try exact dd) [std, LeaseR.d]
        refine o_cb (FO + 1000) rfl rfl (q1 _) rfl (by simp (config := sc) (disch := try exact dd) [std]) ?_
        simp (config := sc) (disch := try exact dd) [std, LeaseR.d, lU]
        refine oc q2 ?_
        simp (config := sc) (disch := try exact dd) [std, LeaseR.d, lU]
        refine o_cb (FO + 2000) rfl rfl (q3 _ (by omega) _) rfl (by simp (config := sc) (disch := try exact dd) [std, lU]) ?_
        simp (config := sc) (disch := try exact dd) [std, LeaseR.d, lU, hc', hW, flat_cons, flat_nil, thawB, hfl, hbx, hi1, hi2, hth]
        done
def r12I (t : List LeaseR) (i : Nat) (S : PS) : Prop :=
 i ≤ t.length ∧ (∀ j, j < i → tabAt t j = true) ∧ (0 < i → i < t.length → nextA t i = true) ∧ S.t 0 = .d (.slice (t.map LeaseR.d)) ∧ S.t 3 = .d (.int .i64 i)
theorem nextA_get {t : List LeaseR} {i : Nat} (h : i + 1 < t.length) : nextA t (i + 1) = decide (t[i].addr < t[i + 1].addr) := by
 have hi : i < t.length := by omega
 simp [nextA, List.getD_eq_getElem?_getD, List.getElem?_eq_getElem h, List.getElem?_eq_getElem hi]
theorem ref12Right (t : List LeaseR) (ht : t.length ≤ 1000000) (hk : ∀ l ∈ t, l.key.length ≤ 9223372036854775807) : Holds Tryz.prog 24 [.d (.slice (t.map LeaseR.d))] (.d (.bool (tableR t))) (fun _ => false) := by
 refine Holds.by (by kernel_rfl) Tryz.func24 (by kernel_rfl) rfl [] (by simp) (by kernel_rfl) (by kernel_rfl) rfl ?_
 conv in ccs _ => cbv
 by_cases h64 : (64 : Int) < t.length
 ·have hz : tableR t = false := by
   unfold tableR
   rw [show decide (t.length ≤ 64) = false from decide_eq_false (by omega)]
   rfl
  simp (config := sc) (disch := try exact dd) [std, h64, hz]
 simp (config := sc) (disch := try exact dd) [std, h64]
 refine lp (r12I t) (fun i => t.length - i) 0 ⟨by omega, by simp, by simp, by simp, by simp⟩ ?_
 rintro i S ⟨hi, ha, hnx, e0, e3⟩
 by_cases hlt : i < t.length
 ·have k6 : (i : Int) < t.length := by omega
  have hn : nth t (i : Int) = t[i] := nth_nat hlt
  have q := ref09Right t[i] (hk _ (List.getElem_mem hlt))
  have hgd : t.getD i default = t[i] := by rw [List.getD_eq_getElem?_getD, List.getElem?_eq_getElem hlt, Option.getD_some]
  have hat : tabAt t i = rightL t[i] := by
   unfold tabAt
   rw [hgd]
   by_cases e : i = 0
   ·subst e; simp [nextA]
   ·rw [hnx (by omega) hlt, Bool.and_true]
  cases hr : rightL t[i] with
  | false =>
    rw [hr] at q hat
    have hz := tab_no hlt hat
    generalize t[i] = x at *
    simp (config := sc) (disch := try exact dd) [std, e0, e3, k6, hn]
    refine oc q ?_
    simp (config := sc) (disch := try exact dd) [std, e0, e3, k6, hn, hz]
  | true =>
    rw [hr] at q hat
    have hs : ∀ j, j < i + 1 → tabAt t j = true := fun j hj => by
     by_cases e : j = i
     ·subst e; exact hat
     ·exact ha j (by omega)
    by_cases hlast : i + 1 < t.length
    ·have hl' : (i : Int) + 1 < t.length := by omega
     have hn2 : nth t ((i : Int) + 1) = t[i + 1] := nth_nat hlast
     have hng := nextA_get hlast
     by_cases hc : t[i].addr < t[i + 1].addr
     ·have hc' : ¬ t[i + 1].addr ≤ t[i].addr := by omega
      have hx : nextA t (i + 1) = true := by rw [hng]; simpa using hc
      generalize t[i + 1] = y at *
      generalize t[i] = x at *
      simp (config := sc) (disch := try exact dd) [std, e0, e3, k6, hn]
      refine oc q ?_
      simp (config := sc) (disch := try exact dd) [std, e0, e3, k6, hn, hl', hn2, hc']
      exact nxt_of (i + 1) ⟨by omega, hs, fun _ _ => hx, by simp (config := sc) (disch := try exact dd) [std, e0], by simp (config := sc) (disch := try exact dd) [std]⟩ (by omega)
     ·have hc' : t[i + 1].addr ≤ t[i].addr := by omega
      have hz : tableR t = false := by
       refine tab_no hlast ?_
       unfold tabAt
       rw [hng]
       simp [hc]
      generalize t[i + 1] = y at *
      generalize t[i] = x at *
      simp (config := sc) (disch := try exact dd) [std, e0, e3, k6, hn]
      refine oc q ?_
      simp (config := sc) (disch := try exact dd) [std, e0, e3, k6, hn, hl', hn2, hc', hz]
    ·have hl' : ¬ (i : Int) + 1 < t.length := by omega
     generalize t[i] = x at *
     simp (config := sc) (disch := try exact dd) [std, e0, e3, k6, hn]
     refine oc q ?_
     simp (config := sc) (disch := try exact dd) [std, e0, e3, k6, hn, hl']
     exact nxt_of (i + 1) ⟨by omega, hs, fun _ h => absurd h (by omega), by simp (config := sc) (disch := try exact dd) [std, e0], by simp (config := sc) (disch := try exact dd) [std]⟩ (by omega)
 ·have k6 : ¬ (i : Int) < t.length := by omega
  have hz : tableR t = true := tab_all.2 ⟨by omega, fun j hj => ha j (by omega)⟩
  simp (config := sc) (disch := try exact dd) [std, e0, e3, k6, hz]
theorem ref12Good (t : List LeaseR) (ht : t.length ≤ 1000000) (hk : ∀ l ∈ t, l.key.length ≤ 9223372036854775807) : Holds Tryz.prog 152 [.d (.slice (t.map LeaseR.d))] (.d (.slice ((goodT t).map LeaseR.d))) (fun _ => false) := by
 refine Holds.by (by kernel_rfl) Tryz.func152 (by kernel_rfl) rfl [] (by simp) (by kernel_rfl) (by kernel_rfl) rfl ?_
 conv in ccs _ => cbv
 have q := ref12Right t ht hk
 unfold goodT
 cases hr : tableR t with
 | false =>
   rw [hr] at q
   simp (config := sc) (disch := try exact dd) [std]
   refine oc q ?_
   simp (config := sc) (disch := try exact dd) [std]
 | true =>
   rw [hr] at q
   simp (config := sc) (disch := try exact dd) [std]
   refine oc q ?_
   simp (config := sc) (disch := try exact dd) [std]
def g12I (t : List LeaseR) (a : Int) (i : Nat) (S : PS) : Prop :=
 i ≤ t.length ∧ (∀ j (h : j < t.length), j < i → t[j].addr ≠ a) ∧ S.t 0 = .d (.slice (t.map LeaseR.d)) ∧ S.t 1 = .d (.int .i64 a) ∧ S.t 4 = .ptr (FO + 4) 1 0 ∧ S.t 6 = .d (.int .i64 i) ∧ S.fo = FO ∧ S.gen (FO + 4) = 1 ∧ S.box (FO + 4) = [.d (.int .i64 0), .d (.int .i64 0), .d (.int .i64 0), .d (.str [])]
theorem ref12Get (t : List LeaseR) (a : Int) (ht : t.length ≤ 1000000) (hk : ∀ l ∈ t, l.key.length ≤ 9223372036854775807) : Holds Tryz.prog 112 [.d (.slice (t.map LeaseR.d)), .d (.int .i64 a)] (.tup [.d (getT t a).1.d, .d (.bool (getT t a).2)]) (fun _ => false) := by
 refine Holds.by (by kernel_rfl) Tryz.func112 (by kernel_rfl) rfl [] (by simp) (by kernel_rfl) (by kernel_rfl) rfl ?_
 conv in ccs _ => cbv
 have q := ref12Good t ht hk
 obtain ⟨h64, _, hsrt⟩ := tab_iff.1 (goodT_tab t)
 unfold getT
 generalize goodT t = g at *
 simp (config := sc) (disch := try exact dd) [std]
 refine oc q ?_
 simp (config := sc) (disch := try exact dd) [std]
 refine lp (g12I g a) (fun i => g.length - i) 0 ⟨by omega, by simp, by simp, by simp, by simp, by simp, by simp, by simp, by simp⟩ ?_
 rintro i S ⟨hi, hn0, e0, e1, e4, e6, efo, g4, b4⟩
 by_cases hlt : i < g.length
 ·have k6 : (i : Int) < g.length := by omega
  have hn : nth g (i : Int) = g[i] := nth_nat hlt
  by_cases hc : g[i].addr = a
  ·obtain ⟨hp, hia⟩ := srt_pos hsrt hlt hc
   have hgd : g.getD i default = g[i] := by rw [List.getD_eq_getElem?_getD, List.getElem?_eq_getElem hlt, Option.getD_some]
   have hgd2 : g[i]?.getD default = g[i] := by rw [List.getElem?_eq_getElem hlt]; rfl
   rw [hia, if_pos rfl, hp]
   first | rw [hgd] | rw [hgd2]
   generalize g[i] = x at *
   simp (config := sc) (disch := try exact dd) [std, e0, e1, e4, e6, efo, g4, b4, k6, hn, hc, LeaseR.d]
  ·have hn1 : ∀ j (h : j < g.length), j < i + 1 → g[j].addr ≠ a := fun j h hj => by
    by_cases e : j = i
    ·subst e; exact hc
    ·exact hn0 j h (by omega)
   generalize g[i] = x at *
   simp (config := sc) (disch := try exact dd) [std, e0, e1, e4, e6, efo, g4, b4, k6, hn, hc]
   exact nxt_of (i + 1) ⟨by omega, hn1, by simp (config := sc) (disch := try exact dd) [std, e0], by simp (config := sc) (disch := try exact dd) [std, e1], by simp (config := sc) (disch := try exact dd) [std, e4], by simp (config := sc) (disch := try exact dd) [std], by simp (config := sc) (disch := try exact dd) [std, efo], by simp (config := sc) (disch := try exact dd) [std, g4], by simp (config := sc) (disch := try exact dd) [std, b4]⟩ (by omega)
 ·have k6 : ¬ (i : Int) < g.length := by omega
  have hia : isA g a = false := by
   rw [Bool.eq_false_iff]
   intro h
   obtain ⟨b, hb, he⟩ := (isA_iff hsrt).1 h
   obtain ⟨j, hj, rfl⟩ := List.mem_iff_getElem.1 hb
   exact hn0 j hj (by omega) he
  rw [hia, if_neg (by decide)]
  simp (config := sc) (disch := try exact dd) [std, e0, e1, e4, e6, efo, g4, b4, k6, LeaseR.d]
def neA (l : LeaseR) (b : LeaseR) : Bool := decide (b.addr ≠ l.addr)
def outR (t : List LeaseR) (l : LeaseR) (i : Nat) : List LeaseR := if posA t l.addr < i then t.take (posA t l.addr) ++ l :: ((t.take i).drop (posA t l.addr)).filter (neA l) else t.take i
theorem outR_lt {t : List LeaseR} {l : LeaseR} {i : Nat} (h : i < posA t l.addr) (hl : i < t.length) : outR t l (i + 1) = outR t l i ++ [t[i]] := by
 unfold outR
 rw [if_neg (by omega), if_neg (by omega), List.take_succ_eq_append_getElem hl]
theorem outR_eq {t : List LeaseR} {l : LeaseR} {i : Nat} (h : i = posA t l.addr) (hl : i < t.length) : outR t l (i + 1) = outR t l i ++ [l] ++ (if t[i].addr = l.addr then [] else [t[i]]) := by
 unfold outR
 rw [if_pos (by omega), if_neg (by omega), ← h]
 have : (t.take (i + 1)).drop i = [t[i]] := by
  rw [List.take_succ_eq_append_getElem hl, List.drop_append, List.drop_eq_nil_of_le (by rw [List.length_take]; omega), List.nil_append, List.length_take, Nat.min_eq_left (Nat.le_of_lt hl), Nat.sub_self, List.drop_zero]
 rw [this]
 by_cases e : t[i].addr = l.addr <;> simp [neA, e]
theorem outR_gt {t : List LeaseR} {l : LeaseR} {i : Nat} (h : posA t l.addr < i) (hl : i < t.length) : outR t l (i + 1) = outR t l i ++ (if t[i].addr = l.addr then [] else [t[i]]) := by
 unfold outR
 rw [if_pos (by omega), if_pos h, List.take_succ_eq_append_getElem hl, List.drop_append_of_le_length (by simp; omega), List.filter_append, List.append_assoc]
 congr 1
 rw [List.cons_append]
 congr 2
 by_cases e : t[i].addr = l.addr <;> simp [neA, e]
theorem outR_end {t : List LeaseR} (hs : SrtA t) (l : LeaseR) : (if posA t l.addr < t.length then outR t l t.length else outR t l t.length ++ [l]) = insL t l := by
 unfold outR insL
 by_cases h : posA t l.addr < t.length
 ·rw [if_pos h, if_pos h, List.take_length]
  have hge := posA_at h
  cases hia : isA t l.addr with
  | true =>
    obtain ⟨_, he⟩ := isA_pos hia
    rw [if_pos rfl, List.set_eq_take_append_cons_drop, if_pos h]
    congr 2
    rw [List.drop_eq_getElem_cons h, List.filter_cons_of_neg (by simp [neA, he]), List.filter_eq_self]
    intro b hb
    obtain ⟨j, hj, rfl⟩ := List.mem_drop_iff_getElem.1 hb
    have := srtA_lt hs (i := posA t l.addr) (j := posA t l.addr + 1 + j) (by omega) (by omega)
    simp only [neA, decide_eq_true_eq]
    omega
  | false =>
    rw [if_neg (by decide)]
    congr 2
    rw [List.filter_eq_self]
    intro b hb
    simp only [neA, decide_eq_true_eq]
    intro e
    have : isA t l.addr = true := (isA_iff hs).2 ⟨b, List.mem_of_mem_drop hb, e⟩
    rw [hia] at this
    cases this
 ·have hle := posA_le t l.addr
  have e : posA t l.addr = t.length := by omega
  have hia : isA t l.addr = false := by simp [isA, e]
  rw [if_neg h, if_neg h, hia, if_neg (by decide), e]
  simp
theorem outR_len (t : List LeaseR) (l : LeaseR) {i : Nat} (hi : i ≤ t.length) : (outR t l i).length ≤ i + 1 := by
 unfold outR
 split
 ·rename_i h
  have := List.length_filter_le (neA l) ((t.take i).drop (posA t l.addr))
  simp only [List.length_drop, List.length_take] at this
  simp only [List.length_append, List.length_take, List.length_cons]
  omega
 ·simp; omega
def s12I (t : List LeaseR) (l : LeaseR) (i : Nat) (S : PS) : Prop :=
 i ≤ t.length ∧ S.t 0 = .d (.slice (t.map LeaseR.d)) ∧ S.t 3 = .cptr (cells l.d) ∧ S.t 6 = .d (.slice ((outR t l i).map LeaseR.d)) ∧ S.own (.t 6 0) = true ∧ S.t 7 = .d (.bool (decide (posA t l.addr < i))) ∧ S.t 8 = .d (.int .i64 i)
theorem ref12Set (t : List LeaseR) (l : LeaseR) (ht : t.length ≤ 1000000) (hk : ∀ l ∈ t, l.key.length ≤ 9223372036854775807) (hl : l.key.length ≤ 9223372036854775807) :
  Holds Tryz.prog 153 [.d (.slice (t.map LeaseR.d)), .d l.d] (.tup [.d (.slice ((setT t l).1.map LeaseR.d)), .d (.int .i64 (setT t l).2)]) (fun _ => false) := by
 refine Holds.by (by kernel_rfl) Tryz.func153 (by kernel_rfl) rfl [20003, 32, 44, 53] (by simp) (by kernel_rfl) (by kernel_rfl) rfl ?_
 conv in ccs _ => cbv
 have q1 := ref12Good t ht hk
 have q2 := ref09Right l hl
 obtain ⟨h64, _, hsrt⟩ := tab_iff.1 (goodT_tab t)
 unfold setT
 generalize goodT t = g at *
 cases hrl : rightL l with
 | false =>
   rw [hrl] at q2
   rw [if_pos rfl]
   simp (config := sc) (disch := try exact dd) [std, LeaseR.d]
   refine oc q1 ?_
   simp (config := sc) (disch := try exact dd) [std, LeaseR.d]
   refine oc q2 ?_
   simp (config := sc) (disch := try exact dd) [std, LeaseR.d]
 | true =>
 rw [hrl] at q2
 rw [if_neg (by simp)]
 simp (config := sc) (disch := try exact dd) [std, LeaseR.d]
 refine oc q1 ?_
 simp (config := sc) (disch := try exact dd) [std, LeaseR.d]
 refine oc q2 ?_
 simp (config := sc) (disch := try exact dd) [std, LeaseR.d]
 refine lp (s12I g l) (fun i => g.length - i) 0 ⟨by omega, by simp, by simp (config := sc) (disch := try exact dd) [std, LeaseR.d], by simp [outR], by simp, by simp, by simp⟩ ?_
 rintro i S ⟨hi, e0, e3, e6, o6, e7, e8⟩
 have hpl := posA_le g l.addr
 have hol := outR_len g l hi
 by_cases hlt : i < g.length
 ·have k6 : (i : Int) < g.length := by omega
  have hn : nth g (i : Int) = g[i] := nth_nat hlt
  rcases Nat.lt_trichotomy i (posA g l.addr) with h | h | h
  ·have hst := outR_lt h hlt
   have ha := posA_lt h hlt
   have hd1 : decide (posA g l.addr < i) = false := decide_eq_false (by omega)
   have hd2 : decide (posA g l.addr < i + 1) = false := decide_eq_false (by omega)
   have hc1 : ¬ l.addr ≤ g[i].addr := by omega
   have hc2 : ¬ g[i].addr = l.addr := by omega
   generalize outR g l i = out at *
   generalize g[i] = x at *
   simp (config := sc) (disch := try exact dd) [std, e0, e3, e6, o6, e7, e8, k6, hn, hd1, hc1, hc2]
   exact nxt_of (i + 1) ⟨by omega, by simp (config := sc) (disch := try exact dd) [std, e0], by simp (config := sc) (disch := try exact dd) [std, e3], by rw [hst]; simp (config := sc) (disch := try exact dd) [std, e6, LeaseR.d], by simp (config := sc) (disch := try exact dd) [std], by rw [hd2]; simp (config := sc) (disch := try exact dd) [std, e7, hd1], by simp (config := sc) (disch := try exact dd) [std]⟩ (by omega)
  ·have hst := outR_eq h hlt
   have ha : l.addr ≤ g[i].addr := by
    have := posA_at (xs := g) (a := l.addr) (by omega)
    simpa [← h] using this
   have hd1 : decide (posA g l.addr < i) = false := decide_eq_false (by omega)
   have hd2 : decide (posA g l.addr < i + 1) = true := decide_eq_true (by omega)
   generalize outR g l i = out at *
   generalize g[i] = x at *
   by_cases hc2 : x.addr = l.addr
   ·rw [if_pos hc2, List.append_nil] at hst
    simp (config := sc) (disch := try exact dd) [std, e0, e3, e6, o6, e7, e8, k6, hn, hd1, ha, hc2]
    exact nxt_of (i + 1) ⟨by omega, by simp (config := sc) (disch := try exact dd) [std, e0], by simp (config := sc) (disch := try exact dd) [std, e3], by rw [hst]; simp (config := sc) (disch := try exact dd) [std, e6, LeaseR.d], by simp (config := sc) (disch := try exact dd) [std], by rw [hd2]; simp (config := sc) (disch := try exact dd) [std], by simp (config := sc) (disch := try exact dd) [std]⟩ (by omega)
   ·rw [if_neg hc2] at hst
    simp (config := sc) (disch := try exact dd) [std, e0, e3, e6, o6, e7, e8, k6, hn, hd1, ha, hc2]
    exact nxt_of (i + 1) ⟨by omega, by simp (config := sc) (disch := try exact dd) [std, e0], by simp (config := sc) (disch := try exact dd) [std, e3], by rw [hst]; simp (config := sc) (disch := try exact dd) [std, e6, LeaseR.d], by simp (config := sc) (disch := try exact dd) [std], by rw [hd2]; simp (config := sc) (disch := try exact dd) [std], by simp (config := sc) (disch := try exact dd) [std]⟩ (by omega)
  ·have hst := outR_gt h hlt
   have hd1 : decide (posA g l.addr < i) = true := decide_eq_true (by omega)
   have hd2 : decide (posA g l.addr < i + 1) = true := decide_eq_true (by omega)
   generalize outR g l i = out at *
   generalize g[i] = x at *
   by_cases hc2 : x.addr = l.addr
   ·rw [if_pos hc2, List.append_nil] at hst
    simp (config := sc) (disch := try exact dd) [std, e0, e3, e6, o6, e7, e8, k6, hn, hd1, hc2]
    exact nxt_of (i + 1) ⟨by omega, by simp (config := sc) (disch := try exact dd) [std, e0], by simp (config := sc) (disch := try exact dd) [std, e3], by rw [hst]; simp (config := sc) (disch := try exact dd) [std, e6, LeaseR.d], by simp (config := sc) (disch := try exact dd) [std, o6], by rw [hd2]; simp (config := sc) (disch := try exact dd) [std, e7, hd1], by simp (config := sc) (disch := try exact dd) [std]⟩ (by omega)
   ·rw [if_neg hc2] at hst
    simp (config := sc) (disch := try exact dd) [std, e0, e3, e6, o6, e7, e8, k6, hn, hd1, hc2]
    exact nxt_of (i + 1) ⟨by omega, by simp (config := sc) (disch := try exact dd) [std, e0], by simp (config := sc) (disch := try exact dd) [std, e3], by rw [hst]; simp (config := sc) (disch := try exact dd) [std, e6, LeaseR.d], by simp (config := sc) (disch := try exact dd) [std], by rw [hd2]; simp (config := sc) (disch := try exact dd) [std, e7, hd1], by simp (config := sc) (disch := try exact dd) [std]⟩ (by omega)
 ·have k6 : ¬ (i : Int) < g.length := by omega
  have hil : i = g.length := by omega
  subst hil
  have hend := outR_end hsrt l
  have hlen := insL_len g l
  have hres : (if isA g l.addr = false ∧ g.length = 64 then (([], 3) : List LeaseR × Int) else (insL g l, 0)) = if (64 : Int) < (insL g l).length then ([], 3) else (insL g l, 0) := by
   by_cases hc : isA g l.addr = false ∧ g.length = 64
   ·rw [if_pos hc, if_pos]
    rw [hlen, hc.1, if_neg (by decide)]
    omega
   ·rw [if_neg hc, if_neg]
    rw [hlen]
    split
    ·omega
    ·rename_i h2
     have h2 : isA g l.addr = false := by simpa using h2
     have : ¬ g.length = 64 := fun e => hc ⟨h2, e⟩
     omega
  rw [hres]
  by_cases hp : posA g l.addr < g.length
  ·have hd1 : decide (posA g l.addr < g.length) = true := decide_eq_true hp
   rw [if_pos hp] at hend
   rw [hend] at e6 hol
   generalize insL g l = r at *
   by_cases h6 : (64 : Int) < r.length
   ·rw [if_pos h6]
    simp (config := sc) (disch := try exact dd) [std, e0, e3, e6, o6, e7, e8, k6, hd1, h6]
   ·rw [if_neg h6]
    simp (config := sc) (disch := try exact dd) [std, e0, e3, e6, o6, e7, e8, k6, hd1, h6]
  ·have hd1 : decide (posA g l.addr < g.length) = false := decide_eq_false hp
   rw [if_neg hp] at hend
   have hml : (outR g l g.length).map LeaseR.d ++ [DV.agg [.int .i64 l.addr, .int .i64 l.state, .int .i64 l.expiry, .str l.key]] = (insL g l).map LeaseR.d := by
    rw [← hend, List.map_append]
    rfl
   have hll : ((outR g l g.length).length : Int) + 1 = (insL g l).length := by
    rw [← hend]
    simp
   generalize outR g l g.length = out at *
   generalize insL g l = r at *
   by_cases h6 : (64 : Int) < r.length
   ·rw [if_pos h6]
    simp (config := sc) (disch := try exact dd) [std, e0, e3, e6, o6, e7, e8, k6, hd1, hll, h6]
   ·rw [if_neg h6]
    simp (config := sc) (disch := try exact dd) [std, e0, e3, e6, o6, e7, e8, k6, hd1, hll, h6, hml]
end Go.Proofs.YtnkmlhlegndlhaaGreat
