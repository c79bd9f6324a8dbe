/- What is reserved, and what lies in pools: what the document's layer 13 answers. -/
import Derived.Test.YtnkmlhlegndlhaaGreatConfU
namespace Go.Proofs.YtnkmlhlegndlhaaGreat
open BoEng Go
set_option maxRecDepth 100000
attribute [-simp] List.map_take List.map_drop List.length_flatMap
set_option linter.unusedSimpArgs false
set_option linter.unusedVariables false
theorem kept_bad {c : Cfg} {n : Int} {k : List UInt8} (h : checkS c ≠ 0 ∨ ¬ (0 ≤ n ∧ n < c.nets.length)) : keptS c n k = none := by
 have : (rightC c).flatMap (resN n) = [] := by
  unfold rightC
  split
  ·rename_i h0
   rcases h with h | h
   ·exact absurd h0 h
   ·exact (net_out h).1
  ·rfl
 unfold keptS
 rw [this]
 rfl
theorem pool_bad {c : Cfg} {n a : Int} (h : checkS c ≠ 0 ∨ ¬ (0 ≤ n ∧ n < c.nets.length)) : inPoolS c n a = false := by
 have : (rightC c).flatMap (poolN n) = [] := by
  unfold rightC
  split
  ·rename_i h0
   rcases h with h | h
   ·exact absurd h0 h
   ·exact (net_out h).2
  ·rfl
 unfold inPoolS
 rw [this]
 rfl
theorem kept_net {c : Cfg} {n : Nat} {k : List UInt8} (h0 : checkS c = 0) (h : n < c.nets.length) : keptS c n k = ((c.nets[n].subs.flatMap Sub.res).find? (keyP k)).map Res.addr := by
 unfold keptS rightC
 rw [if_pos h0, net_res h]
theorem pool_net {c : Cfg} {n : Nat} {a : Int} (h0 : checkS c = 0) (h : n < c.nets.length) : inPoolS c n a = (c.nets[n].subs.flatMap Sub.pools).any fun p => inR p a := by
 unfold inPoolS rightC
 rw [if_pos h0, net_pool h]
def rkI (l : List Sub) (k : List UInt8) (i : Nat) (S : PS) : Prop :=
 i ≤ l.length ∧ ((l.take i).flatMap Sub.res).all (fun r => !keyP k r) = true ∧ S.t 2 = .d (.str k) ∧ S.t 8 = .d (.slice (l.map Sub.d)) ∧ S.t 9 = .d (.int .i64 i)
def rkJ (l : List Sub) (k : List UInt8) (i : Nat) (r : List Res) (j : Nat) (S : PS) : Prop :=
 j ≤ r.length ∧ (r.take j).all (fun r => !keyP k r) = true ∧ S.t 2 = .d (.str k) ∧ S.t 8 = .d (.slice (l.map Sub.d)) ∧ S.t 9 = .d (.int .i64 i) ∧ S.t 10 = .d (.int .i64 j)
theorem ref13KeptFor (c : Cfg) (n : Int) (k : List UInt8) (hc : sizedC c) : Holds Tryz.prog 61 [.d c.d, .d (.int .i64 n), .d (.str k)] (.tup [.d (.int .i64 ((keptS c n k).getD 0)), .d (.bool (keptS c n k).isSome)]) (fun _ => false) := by
 refine Holds.by (by kernel_rfl) Tryz.func61 (by kernel_rfl) rfl [20003] (by simp) (by kernel_rfl) (by kernel_rfl) rfl ?_
 conv in ccs _ => cbv
 have hl1 := hc.1
 have q := ref13Check c hc
 by_cases h0 : checkS c = 0
 ·rw [h0] at q
  by_cases hn0 : n < 0
  ·have hz := kept_bad (k := k) (.inr (by omega) : checkS c ≠ 0 ∨ ¬ (0 ≤ n ∧ n < c.nets.length))
   rw [hz]
   simp (config := sc) (disch := try exact dd) [std]
   refine oc q ?_
   simp (config := sc) (disch := try exact dd) [std, hn0]
  ·obtain ⟨m, rfl⟩ := Int.eq_ofNat_of_zero_le (show 0 ≤ n by omega)
   by_cases hn1 : m < c.nets.length
   ·have hn1' : ¬ (c.nets.length : Int) ≤ (m : Int) := by omega
    have k5 : (m : Int) < c.nets.length := by omega
    have hm0 : ¬ (m : Int) < 0 := by omega
    have hz := kept_net (k := k) h0 hn1
    have hsn := (hc.2 _ (List.getElem_mem hn1)).1
    have hss := (hc.2 _ (List.getElem_mem hn1)).2
    generalize hN : c.nets[m] = N at *
    obtain ⟨l⟩ := N
    dsimp only at hz hsn hss
    rw [hz]
    generalize hR : (l.flatMap Sub.res).find? (keyP k) = R
    simp (config := sc) (disch := try exact dd) [std]
    refine oc q ?_
    simp (config := sc) (disch := try exact dd) [std, hm0, hn1', k5, hN]
    refine lp (rkI l k) (fun i => l.length - i) 0 ⟨by omega, by simp, by simp (config := sc) (disch := try exact dd) [std]⟩ ?_
    rintro i S ⟨hi, ha, e2, e8, e9⟩
    by_cases hlt : i < l.length
    ·have k6 : (i : Int) < l.length := by omega
     have hsz := (hss _ (List.getElem_mem hlt)).2.1
     have hstep := fun h => ff_step (f := Sub.res) (q := fun r => !keyP k r) hlt ha h
     have hhit := fun j hj hb hp => ff_hit (f := Sub.res) (p := keyP k) (i := i) (j := j) hlt hj ha hb hp
     generalize hx : l[i] = x at *
     simp (config := sc) (disch := try exact dd) [std, e2, e8, e9, k6]
     refine lp (rkJ l k i x.res) (fun j => x.res.length - j) 0 ⟨by omega, by simp, by simp (config := sc) (disch := try exact dd) [std, e2, e8, e9]⟩ ?_
     clear e2 e8 e9
     rintro j S1 ⟨hj, hb, e2, e8, e9, e10⟩
     by_cases hjl : j < x.res.length
     ·have k7 : (j : Int) < x.res.length := by omega
      by_cases hk : x.res[j].key = k
      ·have hR2 := hhit j hjl hb (decide_eq_true hk)
       rw [hR] at hR2
       subst hR2
       simp (config := sc) (disch := try exact dd) [std, e2, e8, e9, e10, k6, k7, hx, hk]
      ·have hb2 := allc_step (p := fun r => !keyP k r) hjl hb (by simp [keyP, hk])
       simp (config := sc) (disch := try exact dd) [std, e2, e8, e9, e10, k6, k7, hx, hk]
       exact nxt_of (j + 1) ⟨by omega, hb2, by simp (config := sc) (disch := try exact dd) [std, e2, e8, e9, e10]⟩ (by omega)
     ·have k7 : ¬ (j : Int) < x.res.length := by omega
      have hst := hstep (allc_end hjl hb)
      simp (config := sc) (disch := try exact dd) [std, e2, e8, e9, e10, k6, k7, hx]
      exact nxt_of (i + 1) ⟨by omega, hst, by simp (config := sc) (disch := try exact dd) [std, e2, e8, e9, e10]⟩ (by omega)
    ·have k6 : ¬ (i : Int) < l.length := by omega
     rw [List.take_of_length_le (by omega)] at ha
     have hR2 := ff_out (p := keyP k) ha
     rw [hR] at hR2
     subst hR2
     simp (config := sc) (disch := try exact dd) [std, e2, e8, e9, k6]
   ·have hn1' : (c.nets.length : Int) ≤ (m : Int) := by omega
    have hm0 : ¬ (m : Int) < 0 := by omega
    have hz := kept_bad (k := k) (.inr (by omega) : checkS c ≠ 0 ∨ ¬ (0 ≤ (m : Int) ∧ (m : Int) < c.nets.length))
    rw [hz]
    simp (config := sc) (disch := try exact dd) [std]
    refine oc q ?_
    simp (config := sc) (disch := try exact dd) [std, hm0, hn1']
 ·have hz := kept_bad (n := n) (k := k) (.inl h0)
  rw [hz]
  simp (config := sc) (disch := try exact dd) [std]
  refine oc q ?_
  simp (config := sc) (disch := try exact dd) [std, h0]
def rpKI (l : List Spot) (a : Int) (i : Nat) (S : PS) : Prop :=
 i ≤ l.length ∧ ((l.take i).flatMap resX).all (fun r => !addrP a r) = true ∧ S.t 1 = .d (.int .i64 a) ∧ S.t 6 = .d (.slice (l.map spotSub)) ∧ S.t 8 = .d (.int .i64 i)
def rpKJ (l : List Spot) (a : Int) (i : Nat) (r : List Res) (j : Nat) (S : PS) : Prop :=
 j ≤ r.length ∧ (r.take j).all (fun r => !addrP a r) = true ∧ S.t 1 = .d (.int .i64 a) ∧ S.t 6 = .d (.slice (l.map spotSub)) ∧ S.t 8 = .d (.int .i64 i) ∧ S.t 9 = .d (.int .i64 j)
theorem ref13Keeper (c : Cfg) (a : Int) (hc : sizedC c) : Holds Tryz.prog 62 [.d c.d, .d (.int .i64 a)] (.tup [.d (.str ((keeperS c a).getD [])), .d (.bool (keeperS c a).isSome)]) (fun _ => false) := by
 refine Holds.by (by kernel_rfl) Tryz.func62 (by kernel_rfl) rfl [20002] (by simp) (by kernel_rfl) (by kernel_rfl) rfl ?_
 conv in ccs _ => cbv
 have q := ref13Check c hc
 have q2 := ref13Flat c hc
 by_cases h0 : checkS c = 0
 ·rw [h0] at q
  have hrc : rightC c = spotsS c := if_pos h0
  have hsl := spots_len hc
  have hsz0 := fun i hi => (spots_sized hc (i := i) hi).2.1
  unfold keeperS
  rw [hrc]
  generalize spotsS c = l at *
  generalize hR : (l.flatMap resX).find? (addrP a) = R
  simp (config := sc) (disch := try exact dd) [std]
  refine oc q ?_
  simp (config := sc) (disch := try exact dd) [std]
  refine oc q2 ?_
  simp (config := sc) (disch := try exact dd) [std]
  refine lp (rpKI l a) (fun i => l.length - i) 0 ⟨by omega, by simp, by simp (config := sc) (disch := try exact dd) [std]⟩ ?_
  rintro i S ⟨hi, ha, e1, e6, e8⟩
  by_cases hlt : i < l.length
  ·have k6 : (i : Int) < l.length := by omega
   have hsz := hsz0 i hlt
   have hstep := fun h => ff_step (f := resX) (q := fun r => !addrP a r) hlt ha h
   have hhit := fun j hj hb hp => ff_hit (f := resX) (p := addrP a) (i := i) (j := j) hlt hj ha hb hp
   generalize hx : l[i] = x at *
   simp (config := sc) (disch := try exact dd) [std, e1, e6, e8, k6]
   refine lp (rpKJ l a i x.s.res) (fun j => x.s.res.length - j) 0 ⟨by omega, by simp, by simp (config := sc) (disch := try exact dd) [std, e1, e6, e8]⟩ ?_
   clear e1 e6 e8
   rintro j S1 ⟨hj, hb, e1, e6, e8, e9⟩
   by_cases hjl : j < x.s.res.length
   ·have k7 : (j : Int) < x.s.res.length := by omega
    by_cases hk : x.s.res[j].addr = a
    ·have hR2 := hhit j hjl hb (decide_eq_true hk)
     rw [hR] at hR2
     subst hR2
     simp (config := sc) (disch := try exact dd) [std, e1, e6, e8, e9, k6, k7, hx, hk, spotSub, resX]
    ·have hb2 := allc_step (p := fun r => !addrP a r) hjl hb (by simp [addrP, hk])
     simp (config := sc) (disch := try exact dd) [std, e1, e6, e8, e9, k6, k7, hx, hk, spotSub]
     exact nxt_of (j + 1) ⟨by omega, hb2, by simp (config := sc) (disch := try exact dd) [std, e1, e6, e8, e9]⟩ (by omega)
   ·have k7 : ¬ (j : Int) < x.s.res.length := by omega
    have hst := hstep (allc_end hjl hb)
    simp (config := sc) (disch := try exact dd) [std, e1, e6, e8, e9, k6, k7, hx, spotSub]
    exact nxt_of (i + 1) ⟨by omega, hst, by simp (config := sc) (disch := try exact dd) [std, e1, e6, e8, e9]⟩ (by omega)
  ·have k6 : ¬ (i : Int) < l.length := by omega
   rw [List.take_of_length_le (by omega)] at ha
   have hR2 := ff_out (p := addrP a) ha
   rw [hR] at hR2
   subst hR2
   simp (config := sc) (disch := try exact dd) [std, e1, e6, e8, k6]
 ·have hz : keeperS c a = none := by
   unfold keeperS rightC
   rw [if_neg h0]
   rfl
  rw [hz]
  simp (config := sc) (disch := try exact dd) [std]
  refine oc q ?_
  simp (config := sc) (disch := try exact dd) [std, h0]
def riI (l : List Sub) (a : Int) (i : Nat) (S : PS) : Prop :=
 i ≤ l.length ∧ ((l.take i).flatMap Sub.pools).all (fun p => !inR p a) = true ∧ S.t 2 = .d (.int .i64 a) ∧ S.t 7 = .d (.slice (l.map Sub.d)) ∧ S.t 8 = .d (.int .i64 i)
def riJ (l : List Sub) (a : Int) (i : Nat) (r : List Rng) (j : Nat) (S : PS) : Prop :=
 j ≤ r.length ∧ (r.take j).all (fun p => !inR p a) = true ∧ S.t 2 = .d (.int .i64 a) ∧ S.t 7 = .d (.slice (l.map Sub.d)) ∧ S.t 8 = .d (.int .i64 i) ∧ S.t 9 = .d (.int .i64 j)
theorem ref13InPool (c : Cfg) (n a : Int) (hc : sizedC c) : Holds Tryz.prog 63 [.d c.d, .d (.int .i64 n), .d (.int .i64 a)] (.d (.bool (inPoolS c n a))) (fun _ => false) := by
 refine Holds.by (by kernel_rfl) Tryz.func63 (by kernel_rfl) rfl [20003] (by simp) (by kernel_rfl) (by kernel_rfl) rfl ?_
 conv in ccs _ => cbv
 have hl1 := hc.1
 have q := ref13Check c hc
 by_cases h0 : checkS c = 0
 ·rw [h0] at q
  by_cases hn0 : n < 0
  ·have hz := pool_bad (a := a) (.inr (by omega) : checkS c ≠ 0 ∨ ¬ (0 ≤ n ∧ n < c.nets.length))
   rw [hz]
   simp (config := sc) (disch := try exact dd) [std]
   refine oc q ?_
   simp (config := sc) (disch := try exact dd) [std, hn0]
  ·obtain ⟨m, rfl⟩ := Int.eq_ofNat_of_zero_le (show 0 ≤ n by omega)
   by_cases hn1 : m < c.nets.length
   ·have hn1' : ¬ (c.nets.length : Int) ≤ (m : Int) := by omega
    have k5 : (m : Int) < c.nets.length := by omega
    have hm0 : ¬ (m : Int) < 0 := by omega
    have hz := pool_net (a := a) h0 hn1
    have hsn := (hc.2 _ (List.getElem_mem hn1)).1
    have hss := (hc.2 _ (List.getElem_mem hn1)).2
    generalize hN : c.nets[m] = N at *
    obtain ⟨l⟩ := N
    dsimp only at hz hsn hss
    rw [hz]
    generalize hR : (l.flatMap Sub.pools).any (fun p => inR p a) = R
    simp (config := sc) (disch := try exact dd) [std]
    refine oc q ?_
    simp (config := sc) (disch := try exact dd) [std, hm0, hn1', k5, hN]
    refine lp (riI l a) (fun i => l.length - i) 0 ⟨by omega, by simp, by simp (config := sc) (disch := try exact dd) [std]⟩ ?_
    rintro i S ⟨hi, ha, e2, e7, e8⟩
    by_cases hlt : i < l.length
    ·have k6 : (i : Int) < l.length := by omega
     have hsz := (hss _ (List.getElem_mem hlt)).1
     have hstep := fun h => ff_step (f := Sub.pools) (q := fun p => !inR p a) hlt ha h
     have hhit := fun j hj hp => ff_any (f := Sub.pools) (p := fun p => inR p a) (i := i) (j := j) hlt hj hp
     generalize hx : l[i] = x at *
     simp (config := sc) (disch := try exact dd) [std, e2, e7, e8, k6]
     refine lp (riJ l a i x.pools) (fun j => x.pools.length - j) 0 ⟨by omega, by simp, by simp (config := sc) (disch := try exact dd) [std, e2, e7, e8]⟩ ?_
     clear e2 e7 e8
     rintro j S1 ⟨hj, hb, e2, e7, e8, e9⟩
     by_cases hjl : j < x.pools.length
     ·have k7 : (j : Int) < x.pools.length := by omega
      by_cases hk1 : x.pools[j].first ≤ a
      ·by_cases hk2 : a ≤ x.pools[j].last
       ·have hR2 := hhit j hjl (by simp [inR, hk1, hk2])
        rw [hR] at hR2
        subst hR2
        simp (config := sc) (disch := try exact dd) [std, e2, e7, e8, e9, k6, k7, hx, hk1, hk2]
       ·have hb2 := allc_step (p := fun p => !inR p a) hjl hb (by simp [inR, hk2])
        simp (config := sc) (disch := try exact dd) [std, e2, e7, e8, e9, k6, k7, hx, hk1, hk2]
        exact nxt_of (j + 1) ⟨by omega, hb2, by simp (config := sc) (disch := try exact dd) [std, e2, e7, e8, e9]⟩ (by omega)
      ·have hb2 := allc_step (p := fun p => !inR p a) hjl hb (by simp [inR, hk1])
       simp (config := sc) (disch := try exact dd) [std, e2, e7, e8, e9, k6, k7, hx, hk1]
       exact nxt_of (j + 1) ⟨by omega, hb2, by simp (config := sc) (disch := try exact dd) [std, e2, e7, e8, e9]⟩ (by omega)
     ·have k7 : ¬ (j : Int) < x.pools.length := by omega
      have hst := hstep (allc_end hjl hb)
      simp (config := sc) (disch := try exact dd) [std, e2, e7, e8, e9, k6, k7, hx]
      exact nxt_of (i + 1) ⟨by omega, hst, by simp (config := sc) (disch := try exact dd) [std, e2, e7, e8, e9]⟩ (by omega)
    ·have k6 : ¬ (i : Int) < l.length := by omega
     rw [List.take_of_length_le (by omega)] at ha
     have hR2 := ff_none (p := fun p => inR p a) ha
     rw [hR] at hR2
     subst hR2
     simp (config := sc) (disch := try exact dd) [std, e2, e7, e8, k6]
   ·have hn1' : (c.nets.length : Int) ≤ (m : Int) := by omega
    have hm0 : ¬ (m : Int) < 0 := by omega
    have hz := pool_bad (a := a) (.inr (by omega) : checkS c ≠ 0 ∨ ¬ (0 ≤ (m : Int) ∧ (m : Int) < c.nets.length))
    rw [hz]
    simp (config := sc) (disch := try exact dd) [std]
    refine oc q ?_
    simp (config := sc) (disch := try exact dd) [std, hm0, hn1']
 ·have hz := pool_bad (n := n) (a := a) (.inl h0)
  rw [hz]
  simp (config := sc) (disch := try exact dd) [std]
  refine oc q ?_
  simp (config := sc) (disch := try exact dd) [std, h0]
end Go.Proofs.YtnkmlhlegndlhaaGreat
