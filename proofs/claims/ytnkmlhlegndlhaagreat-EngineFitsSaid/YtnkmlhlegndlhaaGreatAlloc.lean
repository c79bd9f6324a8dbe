/- Which address a client may have: what table, alloc and the document's layers 12 and 15 answer. -/
import Derived.Test.YtnkmlhlegndlhaaGreatAllocP
import Derived.Test.YtnkmlhlegndlhaaGreatConfV
namespace Go.Proofs.YtnkmlhlegndlhaaGreat
open BoEng Go
set_option maxRecDepth 100000
attribute [-simp] List.map_take List.map_drop List.length_flatMap
set_option linter.unusedSimpArgs false
set_option linter.unusedVariables false
theorem tableHolds (l : LeaseR) (now : Int) : Holds Tryz.prog 81 [.d l.d, .d (.int .i64 now)] (.d (.bool (holdsL now l))) (fun _ => false) := by
 refine Holds.by (by kernel_rfl) Tryz.func81 (by kernel_rfl) rfl [20002] (by simp) (by kernel_rfl) (by kernel_rfl) rfl ?_
 conv in ccs _ => cbv
 unfold holdsL
 by_cases h1 : l.state = 1
 ·simp (config := sc) (disch := try exact dd) [std, LeaseR.d, h1]
 ·simp (config := sc) (disch := try exact dd) [std, LeaseR.d, h1]
theorem tableRests (l : LeaseR) (now : Int) : Holds Tryz.prog 31 [.d l.d, .d (.int .i64 now)] (.d (.bool (restsL now l))) (fun _ => false) := by
 refine Holds.by (by kernel_rfl) Tryz.func31 (by kernel_rfl) rfl [20002] (by simp) (by kernel_rfl) (by kernel_rfl) rfl ?_
 conv in ccs _ => cbv
 unfold restsL
 by_cases h1 : l.state = 3
 ·simp (config := sc) (disch := try exact dd) [std, LeaseR.d, h1]
 ·simp (config := sc) (disch := try exact dd) [std, LeaseR.d, h1]
theorem ref12Holds (l : LeaseR) (now : Int) : Holds Tryz.prog 108 [.d l.d, .d (.int .i64 now)] (.d (.bool (holdsL now l))) (fun _ => false) := by
 refine Holds.by (by kernel_rfl) Tryz.func108 (by kernel_rfl) rfl [20002] (by simp) (by kernel_rfl) (by kernel_rfl) rfl ?_
 conv in ccs _ => cbv
 unfold holdsL
 by_cases h1 : l.state = 1
 ·simp (config := sc) (disch := try exact dd) [std, LeaseR.d, h1]
 ·simp (config := sc) (disch := try exact dd) [std, LeaseR.d, h1]
theorem tableGet (t : List LeaseR) (a : Int) (ht : t.length ≤ 1000000) (hk : ∀ l ∈ t, l.key.length ≤ 9223372036854775807) : Holds Tryz.prog 101 [.d (.slice (t.map LeaseR.d)), .d (.int .i64 a)] (.tup [.d (getT t a).1.d, .d (.bool (getT t a).2)]) (fun _ => false) := by
 refine Holds.by (by kernel_rfl) Tryz.func101 (by kernel_rfl) rfl [] (by simp) (by kernel_rfl) (by kernel_rfl) rfl ?_
 conv in ccs _ => cbv
 have q1 := tableGood t ht hk
 obtain ⟨h64, _, hsrt⟩ := tab_iff.1 (goodT_tab t)
 have q2 := tablePlace (goodT t) a (by omega) hsrt
 unfold getT
 generalize goodT t = g at *
 cases hia : isA g a with
 | false =>
   rw [hia] at q2
   rw [if_neg (by decide)]
   simp (config := sc) (disch := try exact dd) [std]
   refine oc q1 ?_
   simp (config := sc) (disch := try exact dd) [std]
   refine oc q2 ?_
   simp (config := sc) (disch := try exact dd) [std, LeaseR.d]
 | true =>
   rw [hia] at q2
   obtain ⟨hp, _⟩ := isA_pos hia
   have hgd : g.getD (posA g a) default = g[posA g a] := by rw [List.getD_eq_getElem?_getD, List.getElem?_eq_getElem hp, Option.getD_some]
   rw [if_pos rfl, hgd]
   have hn : nth g (posA g a : Int) = g[posA g a] := nth_nat hp
   have k6 : (posA g a : Int) < g.length := by omega
   generalize g[posA g a] = x at *
   generalize posA g a = p at *
   simp (config := sc) (disch := try exact dd) [std]
   refine oc q1 ?_
   simp (config := sc) (disch := try exact dd) [std]
   refine oc q2 ?_
   simp (config := sc) (disch := try exact dd) [std, k6, hn, LeaseR.d]
theorem tableFree (t : List LeaseR) (a : Int) (k : List UInt8) (now : Int) (ht : t.length ≤ 1000000) (hk : ∀ l ∈ t, l.key.length ≤ 9223372036854775807) : Holds Tryz.prog 83 [.d (.slice (t.map LeaseR.d)), .d (.int .i64 a), .d (.str k), .d (.int .i64 now)] (.d (.bool (freeT t a k now))) (fun _ => false) := by
 refine Holds.by (by kernel_rfl) Tryz.func83 (by kernel_rfl) rfl [] (by simp) (by kernel_rfl) (by kernel_rfl) rfl ?_
 conv in ccs _ => cbv
 have q1 := tableGet t a ht hk
 unfold freeT freeL
 generalize getT t a = g at *
 obtain ⟨l, b⟩ := g
 have q2 := tableRests l now
 have q3 := tableHolds l now
 dsimp only at q1 ⊢
 cases b with
 | false =>
   simp (config := sc) (disch := try exact dd) [std, LeaseR.d]
   refine oc q1 ?_
   simp (config := sc) (disch := try exact dd) [std, LeaseR.d]
 | true =>
   cases hr : restsL now l with
   | true =>
     rw [hr] at q2
     simp (config := sc) (disch := try exact dd) [std, LeaseR.d]
     refine oc q1 ?_
     simp (config := sc) (disch := try exact dd) [std, LeaseR.d]
     refine oc q2 ?_
     simp (config := sc) (disch := try exact dd) [std, LeaseR.d]
   | false =>
     rw [hr] at q2
     cases hh : holdsL now l with
     | true =>
       rw [hh] at q3
       simp (config := sc) (disch := try exact dd) [std, LeaseR.d]
       refine oc q1 ?_
       simp (config := sc) (disch := try exact dd) [std, LeaseR.d]
       refine oc q2 ?_
       simp (config := sc) (disch := try exact dd) [std, LeaseR.d]
       refine oc q3 ?_
       simp (config := sc) (disch := try exact dd) [std, LeaseR.d]
     | false =>
       rw [hh] at q3
       simp (config := sc) (disch := try exact dd) [std, LeaseR.d]
       refine oc q1 ?_
       simp (config := sc) (disch := try exact dd) [std, LeaseR.d]
       refine oc q2 ?_
       simp (config := sc) (disch := try exact dd) [std, LeaseR.d]
       refine oc q3 ?_
       simp (config := sc) (disch := try exact dd) [std, LeaseR.d]
theorem ref12Free (t : List LeaseR) (a : Int) (k : List UInt8) (now : Int) (ht : t.length ≤ 1000000) (hk : ∀ l ∈ t, l.key.length ≤ 9223372036854775807) : Holds Tryz.prog 60 [.d (.slice (t.map LeaseR.d)), .d (.int .i64 a), .d (.str k), .d (.int .i64 now)] (.d (.bool (freeT t a k now))) (fun _ => false) := by
 refine Holds.by (by kernel_rfl) Tryz.func60 (by kernel_rfl) rfl [] (by simp) (by kernel_rfl) (by kernel_rfl) rfl ?_
 conv in ccs _ => cbv
 have q1 := ref12Get t a ht hk
 have hs := @getT_spec t a
 unfold freeT
 generalize getT t a = g at *
 obtain ⟨l, b⟩ := g
 dsimp only at q1 hs ⊢
 cases b with
 | false =>
   simp (config := sc) (disch := try exact dd) [std, LeaseR.d]
   refine oc q1 ?_
   simp (config := sc) (disch := try exact dd) [std, LeaseR.d]
 | true =>
   have hf := freeL_ref (good_rightL (hs rfl).1) k now
   rw [← hf]
   clear hf hs
   by_cases h2 : l.state = 2
   ·simp (config := sc) (disch := try exact dd) [std, LeaseR.d]
    refine oc q1 ?_
    simp (config := sc) (disch := try exact dd) [std, LeaseR.d, h2]
   ·by_cases h3 : l.expiry ≤ now
    ·simp (config := sc) (disch := try exact dd) [std, LeaseR.d]
     refine oc q1 ?_
     simp (config := sc) (disch := try exact dd) [std, LeaseR.d, h2, h3]
    ·by_cases h1 : l.state = 1
     ·simp (config := sc) (disch := try exact dd) [std, LeaseR.d]
      refine oc q1 ?_
      simp (config := sc) (disch := try exact dd) [std, LeaseR.d, h2, h3, h1]
     ·simp (config := sc) (disch := try exact dd) [std, LeaseR.d]
      refine oc q1 ?_
      simp (config := sc) (disch := try exact dd) [std, LeaseR.d, h2, h3, h1]
def toI (g : List LeaseR) (k : List UInt8) (i : Nat) (S : PS) : Prop :=
 i ≤ g.length ∧ S.t 1 = .d (.str k) ∧ S.t 5 = .d (.slice (((g.take i).filter (ofP k)).map LeaseR.d)) ∧ S.own (.t 5 0) = true ∧ S.t 9 = .d (.slice (g.map LeaseR.d)) ∧ S.t 10 = .d (.int .i64 g.length) ∧ S.t 11 = .d (.int .i64 i)
theorem tableOf (t : List LeaseR) (k : List UInt8) (ht : t.length ≤ 1000000) (hk : ∀ l ∈ t, l.key.length ≤ 9223372036854775807) : Holds Tryz.prog 80 [.d (.slice (t.map LeaseR.d)), .d (.str k)] (.d (.slice ((ofT t k).map LeaseR.d))) (fun _ => false) := by
 refine Holds.by (by kernel_rfl) Tryz.func80 (by kernel_rfl) rfl [19] (by simp) (by kernel_rfl) (by kernel_rfl) rfl ?_
 conv in ccs _ => cbv
 have q1 := tableGood t ht hk
 obtain ⟨h64, _, _⟩ := tab_iff.1 (goodT_tab t)
 unfold ofT
 generalize goodT t = g at *
 simp (config := sc) (disch := try exact dd) [std]
 refine oc q1 ?_
 simp (config := sc) (disch := try exact dd) [std]
 refine lp (toI g k) (fun i => g.length - i) 0 ⟨by omega, by simp, by simp, by simp, by simp, by simp, by simp⟩ ?_
 rintro i S ⟨hi, e1, e5, o5, e9, e10, e11⟩
 by_cases hlt : i < g.length
 ·have k6 : (i : Int) < g.length := by omega
  have hn : nth g (i : Int) = g[i] := nth_nat hlt
  have hti : g.take (i + 1) = g.take i ++ [g[i]] := List.take_succ_eq_append_getElem hlt
  have hfl := List.length_filter_le (ofP k) (g.take i)
  simp only [List.length_take] at hfl
  have hst : (g.take (i + 1)).filter (ofP k) = (g.take i).filter (ofP k) ++ (if ofP k g[i] = true then [g[i]] else []) := by
   rw [hti, List.filter_append]
   by_cases h : ofP k g[i] = true <;> simp [h]
  clear hti
  generalize (g.take i).filter (ofP k) = F at *
  by_cases h : g[i].key = k
  ·rw [if_pos (show ofP k g[i] = true from decide_eq_true h)] at hst
   generalize g[i] = x at *
   simp (config := sc) (disch := try exact dd) [std, e1, e5, o5, e9, e10, e11, k6, hn, h]
   exact nxt_of (i + 1) ⟨by omega, by simp (config := sc) (disch := try exact dd) [std, e1], by rw [hst]; simp (config := sc) (disch := try exact dd) [std, e5, LeaseR.d, h], by simp (config := sc) (disch := try exact dd) [std, o5], by simp (config := sc) (disch := try exact dd) [std, e9], by simp (config := sc) (disch := try exact dd) [std, e10], by simp (config := sc) (disch := try exact dd) [std]⟩ (by omega)
  ·rw [if_neg (show ¬ ofP k g[i] = true by simp [ofP, h]), List.append_nil] at hst
   generalize g[i] = x at *
   simp (config := sc) (disch := try exact dd) [std, e1, e5, o5, e9, e10, e11, k6, hn, h]
   exact nxt_of (i + 1) ⟨by omega, by simp (config := sc) (disch := try exact dd) [std, e1], by rw [hst]; simp (config := sc) (disch := try exact dd) [std, e5], by simp (config := sc) (disch := try exact dd) [std, o5], by simp (config := sc) (disch := try exact dd) [std, e9], by simp (config := sc) (disch := try exact dd) [std, e10], by simp (config := sc) (disch := try exact dd) [std]⟩ (by omega)
 ·have k6 : ¬ (i : Int) < g.length := by omega
  rw [List.take_of_length_le (by omega)] at e5
  simp (config := sc) (disch := try exact dd) [std, e1, e5, o5, e9, e10, e11, k6]
theorem allocIn (c : Cfg) (n a : Int) (hc : sizedC c) : Holds Tryz.prog 82 [.d c.d, .d (.int .i64 n), .d (.int .i64 a)] (.d (.bool (inN c n a))) (fun _ => false) := by
 refine Holds.by (by kernel_rfl) Tryz.func82 (by kernel_rfl) rfl [20003] (by simp) (by kernel_rfl) (by kernel_rfl) rfl ?_
 conv in ccs _ => cbv
 have q := confFind c a hc
 unfold inN
 cases h : findC c a with
 | none =>
   rw [h, foundD_n] at q
   simp (config := sc) (disch := try exact dd) [std]
   refine oc q ?_
   simp (config := sc) (disch := try exact dd) [std]
 | some x =>
   rw [h, foundD_s] at q
   simp (config := sc) (disch := try exact dd) [std]
   refine oc q ?_
   simp (config := sc) (disch := try exact dd) [std]
theorem ref15In (c : Cfg) (n a : Int) (hc : sizedC c) : Holds Tryz.prog 18 [.d c.d, .d (.int .i64 n), .d (.int .i64 a)] (.d (.bool (inN c n a))) (fun _ => false) := by
 refine Holds.by (by kernel_rfl) Tryz.func18 (by kernel_rfl) rfl [20003] (by simp) (by kernel_rfl) (by kernel_rfl) rfl ?_
 conv in ccs _ => cbv
 have q := ref13Find c a hc
 unfold inN
 cases h : findC c a with
 | none =>
   rw [h, foundD_n] at q
   simp (config := sc) (disch := try exact dd) [std]
   refine oc q ?_
   simp (config := sc) (disch := try exact dd) [std]
 | some x =>
   rw [h, foundD_s] at q
   simp (config := sc) (disch := try exact dd) [std]
   refine oc q ?_
   simp (config := sc) (disch := try exact dd) [std]
theorem allocFair (c : Cfg) (t : List LeaseR) (n : Int) (k : List UInt8) (hc : sizedC c) (ht : t.length ≤ 1000000) (hk : ∀ l ∈ t, l.key.length ≤ 9223372036854775807) (hkk : k.length ≤ 9223372036854775807) :
  Holds Tryz.prog 76 [.d c.d, .d (.slice (t.map LeaseR.d)), .d (.int .i64 n), .d (.str k)] (.d (.bool (fairN c t n k))) (fun _ => false) := by
 refine Holds.by (by kernel_rfl) Tryz.func76 (by kernel_rfl) rfl [20004] (by simp) (by kernel_rfl) (by kernel_rfl) rfl ?_
 conv in ccs _ => cbv
 have hl1 := hc.1
 have q1 := confCheck c hc
 have q2 := tableRight t ht hk
 have q3 := keyRight k hkk
 unfold fairN
 by_cases h1 : checkS c = 0
 ·rw [h1] at q1
  cases h2 : tableR t with
  | false =>
    rw [h2] at q2
    simp (config := sc) (disch := try exact dd) [std]
    refine oc q1 ?_
    simp (config := sc) (disch := try exact dd) [std, h1]
    refine oc q2 ?_
    simp (config := sc) (disch := try exact dd) [std, h1]
  | true =>
    rw [h2] at q2
    cases h3 : keyR k with
    | false =>
      rw [h3] at q3
      simp (config := sc) (disch := try exact dd) [std]
      refine oc q1 ?_
      simp (config := sc) (disch := try exact dd) [std, h1]
      refine oc q2 ?_
      simp (config := sc) (disch := try exact dd) [std, h1]
      refine oc q3 ?_
      simp (config := sc) (disch := try exact dd) [std, h1]
    | true =>
      rw [h3] at q3
      by_cases h4 : 0 ≤ n
      ·simp (config := sc) (disch := try exact dd) [std]
       refine oc q1 ?_
       simp (config := sc) (disch := try exact dd) [std, h1]
       refine oc q2 ?_
       simp (config := sc) (disch := try exact dd) [std, h1]
       refine oc q3 ?_
       simp (config := sc) (disch := try exact dd) [std, h1, h4]
      ·simp (config := sc) (disch := try exact dd) [std]
       refine oc q1 ?_
       simp (config := sc) (disch := try exact dd) [std, h1]
       refine oc q2 ?_
       simp (config := sc) (disch := try exact dd) [std, h1]
       refine oc q3 ?_
       simp (config := sc) (disch := try exact dd) [std, h1, h4]
 ·simp (config := sc) (disch := try exact dd) [std]
  refine oc q1 ?_
  simp (config := sc) (disch := try exact dd) [std, h1]
theorem ref15Fair (c : Cfg) (t : List LeaseR) (n : Int) (k : List UInt8) (hc : sizedC c) (ht : t.length ≤ 1000000) (hk : ∀ l ∈ t, l.key.length ≤ 9223372036854775807) (hkk : k.length ≤ 9223372036854775807) :
  Holds Tryz.prog 58 [.d c.d, .d (.slice (t.map LeaseR.d)), .d (.int .i64 n), .d (.str k)] (.d (.bool (fairN c t n k))) (fun _ => false) := by
 refine Holds.by (by kernel_rfl) Tryz.func58 (by kernel_rfl) rfl [20004] (by simp) (by kernel_rfl) (by kernel_rfl) rfl ?_
 conv in ccs _ => cbv
 have hl1 := hc.1
 have q1 := ref13Check c hc
 have q2 := ref12Right t ht hk
 have q3 := ref07Right k hkk
 unfold fairN
 by_cases h1 : checkS c = 0
 ·rw [h1] at q1
  cases h2 : tableR t with
  | false =>
    rw [h2] at q2
    simp (config := sc) (disch := try exact dd) [std]
    refine oc q1 ?_
    simp (config := sc) (disch := try exact dd) [std, h1]
    refine oc q2 ?_
    simp (config := sc) (disch := try exact dd) [std, h1]
  | true =>
    rw [h2] at q2
    cases h3 : keyR k with
    | false =>
      rw [h3] at q3
      simp (config := sc) (disch := try exact dd) [std]
      refine oc q1 ?_
      simp (config := sc) (disch := try exact dd) [std, h1]
      refine oc q2 ?_
      simp (config := sc) (disch := try exact dd) [std, h1]
      refine oc q3 ?_
      simp (config := sc) (disch := try exact dd) [std, h1]
    | true =>
      rw [h3] at q3
      by_cases h4 : 0 ≤ n
      ·simp (config := sc) (disch := try exact dd) [std]
       refine oc q1 ?_
       simp (config := sc) (disch := try exact dd) [std, h1]
       refine oc q2 ?_
       simp (config := sc) (disch := try exact dd) [std, h1]
       refine oc q3 ?_
       simp (config := sc) (disch := try exact dd) [std, h1, h4]
      ·simp (config := sc) (disch := try exact dd) [std]
       refine oc q1 ?_
       simp (config := sc) (disch := try exact dd) [std, h1]
       refine oc q2 ?_
       simp (config := sc) (disch := try exact dd) [std, h1]
       refine oc q3 ?_
       simp (config := sc) (disch := try exact dd) [std, h1, h4]
 ·simp (config := sc) (disch := try exact dd) [std]
  refine oc q1 ?_
  simp (config := sc) (disch := try exact dd) [std, h1]
end Go.Proofs.YtnkmlhlegndlhaaGreat
