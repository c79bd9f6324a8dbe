/- Configurations: what the document's layer 13 answers, third part. -/
import Derived.Test.YtnkmlhlegndlhaaGreatConfS
namespace Go.Proofs.YtnkmlhlegndlhaaGreat
open BoEng Go
set_option maxRecDepth 100000
attribute [-simp] List.map_take List.map_drop List.length_flatMap
set_option linter.unusedSimpArgs false
set_option linter.unusedVariables false
def spotSub (x : Spot) : DV := .agg [.int .i64 x.s.base, .int .i64 x.s.bits, .slice (x.s.pools.map Rng.d), .slice (x.s.res.map Res.d), .int .i64 x.s.iface, .int .i64 x.s.router, .int .i64 x.s.time]
@[simp] theorem spotSub_eq (x : Spot) : spotSub x = .agg [.int .i64 x.s.base, .int .i64 x.s.bits, .slice (x.s.pools.map Rng.d), .slice (x.s.res.map Res.d), .int .i64 x.s.iface, .int .i64 x.s.router, .int .i64 x.s.time] := rfl
def spotNet (x : Spot) : DV := .int .i64 x.net
@[simp] theorem spotNet_eq (x : Spot) : spotNet x = .int .i64 x.net := rfl
def resD (p : Res × Nat) : DV := .agg [.str p.1.key, .int .i64 p.1.addr]
@[simp] theorem resD_eq (p : Res × Nat) : resD p = .agg [.str p.1.key, .int .i64 p.1.addr] := rfl
def resNet (p : Res × Nat) : DV := .int .i64 p.2
@[simp] theorem resNet_eq (p : Res × Nat) : resNet p = .int .i64 p.2 := rfl
def flI (c : Cfg) (i : Nat) (S : PS) : Prop :=
 i ≤ c.nets.length ∧ (∃ out, spotsS c = out ++ spotsF i (c.nets.drop i) ∧ S.t 4 = .d (.slice (out.map spotSub)) ∧ S.own (.t 4 0) = true ∧ S.t 5 = .d (.slice (out.map spotNet)) ∧ S.own (.t 5 0) = true) ∧ S.t 1 = .cptr (cells c.d) ∧ S.t 6 = .d (.int .i64 i)
def flJ (c : Cfg) (i : Nat) (l : List Sub) (j : Nat) (S : PS) : Prop :=
 j ≤ l.length ∧ (∃ out, spotsS c = out ++ subsF i j (l.drop j) ++ spotsF (i + 1) (c.nets.drop (i + 1)) ∧ S.t 4 = .d (.slice (out.map spotSub)) ∧ S.own (.t 4 0) = true ∧ S.t 5 = .d (.slice (out.map spotNet)) ∧ S.own (.t 5 0) = true) ∧ S.t 1 = .cptr (cells c.d) ∧ S.t 6 = .d (.int .i64 i) ∧ S.t 7 = .d (.int .i64 j)
theorem ref13Flat (c : Cfg) (hc : sizedC c) : Holds Tryz.prog 117 [.d c.d] (.tup [.d (.slice ((spotsS c).map spotSub)), .d (.slice ((spotsS c).map spotNet))]) (fun _ => false) := by
 refine Holds.by (by kernel_rfl) Tryz.func117 (by kernel_rfl) rfl [20001, 26, 38] (by simp) (by kernel_rfl) (by kernel_rfl) rfl ?_
 conv in ccs _ => cbv
 have hl := hc.1
 have hsl := spots_len hc
 simp (config := sc) (disch := try exact dd) [std]
 refine lp (flI c) (fun i => c.nets.length - i) 0 ⟨by omega, ⟨[], by simp [spotsS], by simp, by simp, by simp, by simp⟩, by simp⟩ ?_
 rintro i S ⟨hi, ⟨out, ho, e4, o4, e5, o5⟩, e1, e6⟩
 by_cases hlt : i < c.nets.length
 ·have k6 : (i : Int) < c.nets.length := by omega
  have hns := sized_net hc hlt
  have hd : c.nets.drop i = c.nets[i] :: c.nets.drop (i + 1) := List.drop_eq_getElem_cons hlt
  rw [hd, spotsF, ← List.append_assoc] at ho
  simp (config := sc) (disch := try exact dd) [std, e1, e4, o4, e5, o5, e6, k6]
  refine lp (flJ c i c.nets[i].subs) (fun j => c.nets[i].subs.length - j) 0 ⟨by omega, ⟨out, by simpa using ho, by simp (config := sc) (disch := try exact dd) [std, e4], by simp (config := sc) (disch := try exact dd) [std, o4], by simp (config := sc) (disch := try exact dd) [std, e5], by simp (config := sc) (disch := try exact dd) [std, o5]⟩, by simp (config := sc) (disch := try exact dd) [std, e1, e6]⟩ ?_
  rintro j S ⟨hj, ⟨out, ho, e4, o4, e5, o5⟩, e1, e6, e7⟩
  by_cases hjlt : j < c.nets[i].subs.length
  ·have k7 : (j : Int) < c.nets[i].subs.length := by omega
   have hd : c.nets[i].subs.drop j = c.nets[i].subs[j] :: c.nets[i].subs.drop (j + 1) := List.drop_eq_getElem_cons hjlt
   rw [hd, subsF] at ho
   have hol : out.length ≤ 1000000 := by
    have := congrArg List.length ho
    simp only [List.length_append] at this
    omega
   simp (config := sc) (disch := try exact dd) [std, e1, e4, o4, e5, o5, e6, e7, k6, k7]
   exact nxt_of (j + 1) ⟨by omega, ⟨out ++ [⟨i, j, c.nets[i].subs[j]⟩], by simpa using ho, by simp (config := sc) (disch := try exact dd) [std, e4], by simp (config := sc) (disch := try exact dd) [std, o4], by simp (config := sc) (disch := try exact dd) [std, e5], by simp (config := sc) (disch := try exact dd) [std, o5]⟩, by simp (config := sc) (disch := try exact dd) [std, e1, e6, e7]⟩ (by omega)
  ·have k7 : ¬ (j : Int) < c.nets[i].subs.length := by omega
   have hd : c.nets[i].subs.drop j = [] := by simp; omega
   rw [hd, subsF, List.append_nil] at ho
   simp (config := sc) (disch := try exact dd) [std, e1, e4, o4, e5, o5, e6, e7, k6, k7]
   exact nxt_of (i + 1) ⟨by omega, ⟨out, ho, by simp (config := sc) (disch := try exact dd) [std, e4], by simp (config := sc) (disch := try exact dd) [std, o4], by simp (config := sc) (disch := try exact dd) [std, e5], by simp (config := sc) (disch := try exact dd) [std, o5]⟩, by simp (config := sc) (disch := try exact dd) [std, e1, e6, e7]⟩ (by omega)
 ·have k6 : ¬ (i : Int) < c.nets.length := by omega
  have hd : c.nets.drop i = [] := by simp; omega
  rw [hd, spotsF, List.append_nil] at ho
  simp (config := sc) (disch := try exact dd) [std, e1, e4, o4, e5, o5, e6, k6, ho]
def poI (s : Sub) (i : Nat) (S : PS) : Prop :=
 i ≤ s.pools.length ∧ (s.pools.take i).Pairwise (fun p q => apartR p q = true) ∧ S.t 1 = .cptr (cells s.d) ∧ S.t 3 = .d (.int .i64 i)
def poJ (s : Sub) (i : Nat) (q : Rng) (k : Nat) (S : PS) : Prop :=
 k ≤ i ∧ (∀ j (hj : j < k) (hl : j < s.pools.length), apartR s.pools[j] q = true) ∧ S.t 1 = .cptr (cells s.d) ∧ S.t 3 = .d (.int .i64 i) ∧ S.t 4 = .d (.int .i64 k)
theorem ref13Pooled (s : Sub) (hs : sizedS s) : Holds Tryz.prog 120 [.d s.d] (.d (.bool (!poolsOk s))) (fun _ => false) := by
 refine Holds.by (by kernel_rfl) Tryz.func120 (by kernel_rfl) rfl [20001] (by simp) (by kernel_rfl) (by kernel_rfl) rfl ?_
 conv in ccs _ => cbv
 obtain ⟨hp, hr, hk⟩ := hs
 simp (config := sc) (disch := try exact dd) [std]
 refine lp (poI s) (fun i => s.pools.length - i) 0 ⟨by omega, by simp, by simp⟩ ?_
 rintro i S ⟨hi, ha, e1, e3⟩
 by_cases hlt : i < s.pools.length
 ·have k6 : (i : Int) < s.pools.length := by omega
  simp (config := sc) (disch := try exact dd) [std, e1, e3, k6]
  refine lp (poJ s i s.pools[i]) (fun k => i - k) 0 ⟨by omega, by simp, by simp (config := sc) (disch := try exact dd) [std, e1, e3]⟩ ?_
  rintro k S ⟨hki, hka, e1, e3, e4⟩
  by_cases hlt2 : k < i
  ·have k7 : (k : Int) < i := by omega
   have hkl : k < s.pools.length := by omega
   have hn := nth_nat hkl
   have hbad : ¬ apartR s.pools[k] s.pools[i] = true → (!poolsOk s) = true := fun h => by
    have := pw_bad (R := fun p q => apartR p q = true) hlt hlt2 h
    simp [poolsOk, this]
   have hnx : apartR s.pools[k] s.pools[i] = true → ∀ j (hj : j < k + 1) (hl : j < s.pools.length), apartR s.pools[j] s.pools[i] = true := fun h j hj hl => by
    rcases Nat.lt_or_ge j k with h1 | h1
    ·exact hka j h1 hl
    ·have : j = k := by omega
     subst this
     exact h
   by_cases h1 : s.pools[i].first ≤ s.pools[k].last
   ·by_cases h2 : s.pools[k].first ≤ s.pools[i].last
    ·have hz := hbad (by simp [apartR, h1, h2])
     simp (config := sc) (disch := try exact dd) [std, e1, e3, e4, k6, k7, h1, h2, hz]
    ·simp (config := sc) (disch := try exact dd) [std, e1, e3, e4, k6, k7, h1, h2]
     exact nxt_of (k + 1) ⟨by omega, hnx (by simp [apartR, h2]), by simp (config := sc) (disch := try exact dd) [std, e1, e3, e4]⟩ (by omega)
   ·simp (config := sc) (disch := try exact dd) [std, e1, e3, e4, k6, k7, h1]
    exact nxt_of (k + 1) ⟨by omega, hnx (by simp [apartR, h1]), by simp (config := sc) (disch := try exact dd) [std, e1, e3, e4]⟩ (by omega)
  ·have k7 : ¬ (k : Int) < i := by omega
   simp (config := sc) (disch := try exact dd) [std, e1, e3, e4, k6, k7]
   exact nxt_of (i + 1) ⟨by omega, pw_step hlt ha fun j hj => hka j (by omega) (by omega), by simp (config := sc) (disch := try exact dd) [std, e1, e3, e4]⟩ (by omega)
 ·have k6 : ¬ (i : Int) < s.pools.length := by omega
  have hz : (!poolsOk s) = false := by
   have := pw_end hlt ha
   simp [poolsOk, this]
  simp (config := sc) (disch := try exact dd) [std, e1, e3, k6, hz]
theorem resOf_len {x : Spot} (h : sizedS x.s) : (resOf x).length ≤ 1000 := by
 have := h.2.1
 simp [resOf, this]
theorem flat_len {c : Cfg} (hc : sizedC c) : ∀ (n : Nat), n ≤ (spotsS c).length → (((spotsS c).take n).flatMap resOf).length ≤ n * 1000
 | 0, _ => by simp
 | n + 1, h => by
   have ih := flat_len hc n (by omega)
   have h1 := resOf_len (spots_sized hc (show n < (spotsS c).length by omega))
   rw [List.take_succ_eq_append_getElem (by omega), List.flatMap_append, List.length_append]
   simp only [List.flatMap_cons, List.flatMap_nil, List.append_nil]
   omega
def twI (c : Cfg) (i : Nat) (S : PS) : Prop :=
 i ≤ (spotsS c).length ∧ ((spotsS c).take i).all poolsX = true ∧ ((spotsS c).take i).Pairwise lessR ∧ S.t 3 = .d (.slice ((spotsS c).map spotSub)) ∧ S.t 4 = .d (.slice ((spotsS c).map spotNet)) ∧
   S.t 5 = .d (.slice ((((spotsS c).take i).flatMap resOf).map resD)) ∧ S.own (.t 5 0) = true ∧ S.t 6 = .d (.slice ((((spotsS c).take i).flatMap resOf).map resNet)) ∧ S.own (.t 6 0) = true ∧ S.t 7 = .d (.int .i64 i)
def twK (c : Cfg) (i : Nat) (y : Spot) (L : List (Res × Nat)) (k : Nat) (S : PS) : Prop :=
 k ≤ i ∧ (∀ j (hj : j < k) (hl : j < (spotsS c).length), lessR (spotsS c)[j] y) ∧ S.t 3 = .d (.slice ((spotsS c).map spotSub)) ∧ S.t 4 = .d (.slice ((spotsS c).map spotNet)) ∧
   S.t 5 = .d (.slice (L.map resD)) ∧ S.own (.t 5 0) = true ∧ S.t 6 = .d (.slice (L.map resNet)) ∧ S.own (.t 6 0) = true ∧ S.t 7 = .d (.int .i64 i) ∧ S.t 8 = .d (.int .i64 k)
def twR (c : Cfg) (i : Nat) (y : Spot) (L : List (Res × Nat)) (k : Nat) (S : PS) : Prop :=
 k ≤ y.s.res.length ∧ S.t 3 = .d (.slice ((spotsS c).map spotSub)) ∧ S.t 4 = .d (.slice ((spotsS c).map spotNet)) ∧
   S.t 5 = .d (.slice ((L ++ (resOf y).take k).map resD)) ∧ S.own (.t 5 0) = true ∧ S.t 6 = .d (.slice ((L ++ (resOf y).take k).map resNet)) ∧ S.own (.t 6 0) = true ∧ S.t 7 = .d (.int .i64 i) ∧ S.t 9 = .d (.int .i64 k)
def twP (L : List (Res × Nat)) (i : Nat) (S : PS) : Prop :=
 i ≤ L.length ∧ (L.take i).Pairwise apartQ ∧ S.t 5 = .d (.slice (L.map resD)) ∧ S.t 6 = .d (.slice (L.map resNet)) ∧ S.t 10 = .d (.int .i64 i)
def twQ (L : List (Res × Nat)) (i : Nat) (b : Res × Nat) (k : Nat) (S : PS) : Prop :=
 k ≤ i ∧ (∀ j (hj : j < k) (hl : j < L.length), apartQ L[j] b) ∧ S.t 5 = .d (.slice (L.map resD)) ∧ S.t 6 = .d (.slice (L.map resNet)) ∧ S.t 10 = .d (.int .i64 i) ∧ S.t 11 = .d (.int .i64 k)
set_option maxHeartbeats 4000000 in
theorem ref13Twice (c : Cfg) (hc : sizedC c) : Holds Tryz.prog 67 [.d c.d] (.d (.bool (!soleS c))) (fun _ => false) := by
 refine Holds.by (by kernel_rfl) Tryz.func67 (by kernel_rfl) rfl [20001, 94, 105] (by simp) (by kernel_rfl) (by kernel_rfl) rfl ?_
 conv in ccs _ => cbv
 have hsl := spots_len hc
 simp (config := sc) (disch := try exact dd) [std]
 refine oc (ref13Flat c hc) ?_
 simp (config := sc) (disch := try exact dd) [std]
 refine lp (twI c) (fun i => (spotsS c).length - i) 0 ⟨by omega, by simp, by simp, by simp (config := sc) (disch := try exact dd) [std]⟩ ?_
 rintro i S ⟨hi, ha, hp, e3, e4, e5, o5, e6, o6, e7⟩
 by_cases hlt : i < (spotsS c).length
 ·have k6 : (i : Int) < (spotsS c).length := by omega
  have hsz := spots_sized hc hlt
  have hnt := spots_net hc hlt
  have hfl := flat_len hc i hi
  have hrl := resOf_len hsz
  have hrs := hsz.2.1
  have hpl := ref13Pooled (spotsS c)[i].s hsz
  have hls : (List.take (i + 1) (spotsS c)).flatMap resOf = (List.take i (spotsS c)).flatMap resOf ++ resOf (spotsS c)[i] := by
   rw [List.take_succ_eq_append_getElem hlt, List.flatMap_append]; simp
  generalize hL : (List.take i (spotsS c)).flatMap resOf = L at *
  cases hb : poolsOk (spotsS c)[i].s with
  | false =>
    have hz : (!soleS c) = true := by
     have : (spotsS c).all poolsX = false := allc_bad hlt hb
     simp [soleS, this]
    rw [hb] at hpl
    simp (config := sc) (disch := try exact dd) [std, e3, e4, e5, o5, e6, o6, e7, k6]
    refine oc hpl ?_
    simp (config := sc) (disch := try exact dd) [std, hz]
  | true =>
    rw [hb] at hpl
    simp (config := sc) (disch := try exact dd) [std, e3, e4, e5, o5, e6, o6, e7, k6]
    refine oc hpl ?_
    simp (config := sc) (disch := try exact dd) [std, e3, e4, e5, o5, e6, o6, e7]
    refine lp (twK c i (spotsS c)[i] L) (fun k => i - k) 0 ⟨by omega, by simp, by simp (config := sc) (disch := try exact dd) [std, e3, e4, e5, o5, e6, o6, e7]⟩ ?_
    rintro k S ⟨hki, hka, e3, e4, e5, o5, e6, o6, e7, e8⟩
    by_cases hlt2 : k < i
    ·have k7 : (k : Int) < i := by omega
     have hkl : k < (spotsS c).length := by omega
     have hknt := spots_net hc hkl
     have hbad : ¬ lessR (spotsS c)[k] (spotsS c)[i] → (!soleS c) = true := fun h => by
      have := pw_bad (R := lessR) hlt hlt2 h
      simp [soleS, this]
     have hnx : lessR (spotsS c)[k] (spotsS c)[i] → ∀ j (hj : j < k + 1) (hl : j < (spotsS c).length), lessR (spotsS c)[j] (spotsS c)[i] := fun h j hj hl => by
      rcases Nat.lt_or_ge j k with h1 | h1
      ·exact hka j h1 hl
      ·have : j = k := by omega
       subst this
       exact h
     have hm := ref01Meet (spotsS c)[i].s.base (spotsS c)[i].s.bits (spotsS c)[k].s.base (spotsS c)[k].s.bits
     have hdef : lessR (spotsS c)[k] (spotsS c)[i] ↔ (!(meetA (spotsS c)[i].s.base (spotsS c)[i].s.bits (spotsS c)[k].s.base (spotsS c)[k].s.bits || !decide ((spotsS c)[i].net = (spotsS c)[k].net) && decide ((spotsS c)[i].s.iface = (spotsS c)[k].s.iface) && decide (0 < (spotsS c)[i].s.iface))) = true := Iff.rfl
     cases h1 : meetA (spotsS c)[i].s.base (spotsS c)[i].s.bits (spotsS c)[k].s.base (spotsS c)[k].s.bits with
     | true =>
       have hz := hbad (by rw [hdef, h1]; simp)
       rw [h1] at hm
       simp (config := sc) (disch := try exact dd) [std, e3, e4, e5, o5, e6, o6, e7, e8, k7]
       refine oc hm ?_
       simp (config := sc) (disch := try exact dd) [std, hz]
     | false =>
       rw [h1] at hm
       rw [h1] at hdef
       simp (config := sc) (disch := try exact dd) [std, e3, e4, e5, o5, e6, o6, e7, e8, k7]
       refine oc hm ?_
       by_cases h2 : (((spotsS c)[i].net : Nat) : Int) = (spotsS c)[k].net
       ·have h2' := eq_true h2
        have h2n : (spotsS c)[i].net = (spotsS c)[k].net := by omega
        simp (config := sc) (disch := try exact dd) [std, e3, e4, e5, o5, e6, o6, e7, e8, h2']
        exact nxt_of (k + 1) ⟨by omega, hnx (hdef.2 (by simp [h2n])), by simp (config := sc) (disch := try exact dd) [std, e3, e4, e5, o5, e6, o6, e7, e8]⟩ (by omega)
       ·have h2n : ¬ (spotsS c)[i].net = (spotsS c)[k].net := by omega
        by_cases h3 : 0 < (spotsS c)[i].s.iface
        ·by_cases h4 : (spotsS c)[i].s.iface = (spotsS c)[k].s.iface
         ·have hz := hbad (by rw [hdef]; simp [h2n, h3, eq_true h4])
          simp (config := sc) (disch := try exact dd) [std, e3, e4, e5, o5, e6, o6, e7, e8, h2, h3, eq_true h4, hz]
         ·simp (config := sc) (disch := try exact dd) [std, e3, e4, e5, o5, e6, o6, e7, e8, h2, h3, h4]
          exact nxt_of (k + 1) ⟨by omega, hnx (hdef.2 (by simp [h4])), by simp (config := sc) (disch := try exact dd) [std, e3, e4, e5, o5, e6, o6, e7, e8]⟩ (by omega)
        ·simp (config := sc) (disch := try exact dd) [std, e3, e4, e5, o5, e6, o6, e7, e8, h2, h3]
         exact nxt_of (k + 1) ⟨by omega, hnx (hdef.2 (by simp [h3])), by simp (config := sc) (disch := try exact dd) [std, e3, e4, e5, o5, e6, o6, e7, e8]⟩ (by omega)
    ·have k7 : ¬ (k : Int) < i := by omega
     have hpi := pw_step hlt hp fun j hj => hka j (by omega) (by omega)
     simp (config := sc) (disch := try exact dd) [std, e3, e4, e5, o5, e6, o6, e7, e8, k7]
     refine lp (twR c i (spotsS c)[i] L) (fun k => (spotsS c)[i].s.res.length - k) 0 ⟨by omega, by simp (config := sc) (disch := try exact dd) [std, e3, e4, e5, o5, e6, o6, e7]⟩ ?_
     rintro k S ⟨hkr, e3, e4, e5, o5, e6, o6, e7, e9⟩
     by_cases hlt3 : k < (spotsS c)[i].s.res.length
     ·have k8 : (k : Int) < (spotsS c)[i].s.res.length := by omega
      have hrk : k < (resOf (spotsS c)[i]).length := by simp [resOf]; omega
      have hra : (resOf (spotsS c)[i])[k] = ((spotsS c)[i].s.res[k], (spotsS c)[i].net) := by simp [resOf]
      have hnew : L ++ (resOf (spotsS c)[i]).take (k + 1) = L ++ (resOf (spotsS c)[i]).take k ++ [((spotsS c)[i].s.res[k], (spotsS c)[i].net)] := by
       rw [List.take_succ_eq_append_getElem hrk, hra, List.append_assoc]
      have hLl : (L ++ (resOf (spotsS c)[i]).take k).length ≤ 1001000000 := by
       simp only [List.length_append, List.length_take]
       omega
      generalize L ++ (resOf (spotsS c)[i]).take k = M at *
      simp (config := sc) (disch := try exact dd) [std, e3, e4, e5, o5, e6, o6, e7, e9, k6, k8]
      exact nxt_of (k + 1) ⟨by omega, by rw [hnew]; simp (config := sc) (disch := try exact dd) [std, e3, e4, e5, o5, e6, o6, e7, e9]⟩ (by omega)
     ·have k8 : ¬ (k : Int) < (spotsS c)[i].s.res.length := by omega
      have hall : (resOf (spotsS c)[i]).take k = resOf (spotsS c)[i] := List.take_of_length_le (by simp [resOf]; omega)
      rw [hall, ← hls] at e5 e6
      simp (config := sc) (disch := try exact dd) [std, e3, e4, e5, o5, e6, o6, e7, e9, k6, k8]
      exact nxt_of (i + 1) ⟨by omega, allc_step hlt ha hb, hpi, by simp (config := sc) (disch := try exact dd) [std, e3, e4, e5, o5, e6, o6, e7, e9]⟩ (by omega)
 ·have k6 : ¬ (i : Int) < (spotsS c).length := by omega
  have hA := allc_end hlt ha
  have hP := pw_end hlt hp
  have hT : (spotsS c).take i = spotsS c := List.take_of_length_le (by omega)
  have hfl := flat_len hc i hi
  rw [hT] at e5 e6 hfl
  have hsd : (!soleS c) = !decide ((resAll c).Pairwise apartQ) := by
   simp only [soleS, hA, hP, decide_true, Bool.true_and]
  rw [hsd]
  have hRL : (resAll c).length ≤ 1000000000 := by
   show ((spotsS c).flatMap resOf).length ≤ _
   omega
  change S.t 5 = .d (.slice ((resAll c).map resD)) at e5
  change S.t 6 = .d (.slice ((resAll c).map resNet)) at e6
  generalize resAll c = L at *
  simp (config := sc) (disch := try exact dd) [std, e3, e5, o5, e6, o6, e7, k6]
  refine lp (twP L) (fun i => L.length - i) 0 ⟨by omega, by simp, by simp (config := sc) (disch := try exact dd) [std, e5, e6]⟩ ?_
  clear e3 e4 e5 o5 e6 o6 e7 k6 ha hp hi hlt hT hfl hsd
  rintro i S ⟨hi, hp, e5, e6, e10⟩
  by_cases hlt : i < L.length
  ·have k6 : (i : Int) < L.length := by omega
   simp (config := sc) (disch := try exact dd) [std, e5, e6, e10, k6]
   refine lp (twQ L i L[i]) (fun k => i - k) 0 ⟨by omega, by simp, by simp (config := sc) (disch := try exact dd) [std, e5, e6, e10]⟩ ?_
   rintro k S ⟨hki, hka, e5, e6, e10, e11⟩
   by_cases hlt2 : k < i
   ·have k7 : (k : Int) < i := by omega
    have hkl : k < L.length := by omega
    have hbad : ¬ apartQ L[k] L[i] → (!decide (L.Pairwise apartQ)) = true := fun h => by
     have := pw_bad (R := apartQ) hlt hlt2 h
     simp [this]
    have hnx : apartQ L[k] L[i] → ∀ j (hj : j < k + 1) (hl : j < L.length), apartQ L[j] L[i] := fun h j hj hl => by
     rcases Nat.lt_or_ge j k with h1 | h1
     ·exact hka j h1 hl
     ·have : j = k := by omega
      subst this
      exact h
    have hdef : apartQ L[k] L[i] ↔ (!(decide (L[i].1.addr = L[k].1.addr) || decide (L[i].2 = L[k].2) && decide (L[i].1.key = L[k].1.key))) = true := Iff.rfl
    generalize hD : (!decide (L.Pairwise apartQ)) = D at *
    by_cases h1 : L[i].1.addr = L[k].1.addr
    ·have hz := hbad (by rw [hdef]; simp [h1])
     simp (config := sc) (disch := try exact dd) [std, e5, e6, e10, e11, k6, k7, eq_true h1, hz]
    ·by_cases h2 : ((L[i].2 : Nat) : Int) = L[k].2
     ·have h2n : L[i].2 = L[k].2 := by omega
      by_cases h3 : L[i].1.key = L[k].1.key
      ·have hz := hbad (by rw [hdef]; simp [h2n, h3])
       simp (config := sc) (disch := try exact dd) [std, e5, e6, e10, e11, k6, k7, h1, eq_true h2, eq_true h3, hz]
      ·simp (config := sc) (disch := try exact dd) [std, e5, e6, e10, e11, k6, k7, h1, eq_true h2, h3]
       exact nxt_of (k + 1) ⟨by omega, hnx (hdef.2 (by simp [h1, h3])), by simp (config := sc) (disch := try exact dd) [std, e5, e6, e10, e11]⟩ (by omega)
     ·have h2n : ¬ L[i].2 = L[k].2 := by omega
      simp (config := sc) (disch := try exact dd) [std, e5, e6, e10, e11, k6, k7, h1, h2]
      exact nxt_of (k + 1) ⟨by omega, hnx (hdef.2 (by simp [h1, h2n])), by simp (config := sc) (disch := try exact dd) [std, e5, e6, e10, e11]⟩ (by omega)
   ·have k7 : ¬ (k : Int) < i := by omega
    simp (config := sc) (disch := try exact dd) [std, e5, e6, e10, e11, k6, k7]
    exact nxt_of (i + 1) ⟨by omega, pw_step hlt hp fun j hj => hka j (by omega) (by omega), by simp (config := sc) (disch := try exact dd) [std, e5, e6, e10, e11]⟩ (by omega)
  ·have k6 : ¬ (i : Int) < L.length := by omega
   have hz : decide (L.Pairwise apartQ) = true := decide_eq_true (pw_end hlt hp)
   rw [hz]
   simp (config := sc) (disch := try exact dd) [std, e5, e6, e10, k6]
theorem ref13Check (c : Cfg) (hc : sizedC c) : Holds Tryz.prog 23 [.d c.d] (.d (.int .i64 (checkS c))) (fun _ => false) := by
 refine Holds.by (by kernel_rfl) Tryz.func23 (by kernel_rfl) rfl [20001] (by simp) (by kernel_rfl) (by kernel_rfl) rfl ?_
 conv in ccs _ => cbv
 cases h1 : formS c with
 | false =>
   have hz : checkS c = 1 := by simp [checkS, h1]
   simp (config := sc) (disch := try exact dd) [std]
   refine oc (ref13Form c hc) ?_
   simp (config := sc) (disch := try exact dd) [std, h1, hz]
 | true =>
   have hsu := sole_unlike h1
   simp (config := sc) (disch := try exact dd) [std]
   refine oc (ref13Form c hc) ?_
   simp (config := sc) (disch := try exact dd) [std, h1]
   refine oc (ref13Places c hc h1) ?_
   cases h2 : placedS c with
   | false =>
     have hz : checkS c = 9 := by simp [checkS, h1, h2]
     simp (config := sc) (disch := try exact dd) [std, h1, hz]
   | true =>
     simp (config := sc) (disch := try exact dd) [std, h1]
     refine oc (ref13Twice c hc) ?_
     cases h3 : unlikeS c with
     | false =>
       have hz : checkS c = 8 := by simp [checkS, h1, h2, h3]
       rw [h3] at hsu
       simp (config := sc) (disch := try exact dd) [std, hsu, hz]
     | true =>
       have hz : checkS c = 0 := by simp [checkS, h1, h2, h3]
       rw [h3] at hsu
       simp (config := sc) (disch := try exact dd) [std, hsu, hz]
theorem find_cons {p : Spot → Bool} {l out rest : List Spot} {x : Spot} (h : l = out ++ x :: rest) (ho : out.all (fun y => !p y) = true) (hx : p x = true) : l.find? p = some x := by
 rw [h, List.find?_append]
 have : out.find? p = none := by
  rw [List.find?_eq_none]
  intro y hy
  have := List.all_eq_true.1 ho y hy
  simpa using this
 simp [this, hx]
theorem find_out {p : Spot → Bool} {l out : List Spot} (h : l = out) (ho : out.all (fun y => !p y) = true) : l.find? p = none := by
 rw [h, List.find?_eq_none]
 intro y hy
 have := List.all_eq_true.1 ho y hy
 simpa using this
def rfiI (c : Cfg) (a : Int) (i : Nat) (S : PS) : Prop :=
 i ≤ c.nets.length ∧ (∃ out, spotsS c = out ++ spotsF i (c.nets.drop i) ∧ out.all (fun y => !hasX a y) = true) ∧ S.t 1 = .d (.int .i64 a) ∧ S.t 2 = .cptr (cells c.d) ∧ S.t 7 = .d (.int .i64 i)
def rfiJ (c : Cfg) (a : Int) (i : Nat) (l : List Sub) (j : Nat) (S : PS) : Prop :=
 j ≤ l.length ∧ (∃ out, spotsS c = out ++ subsF i j (l.drop j) ++ spotsF (i + 1) (c.nets.drop (i + 1)) ∧ out.all (fun y => !hasX a y) = true) ∧ S.t 1 = .d (.int .i64 a) ∧ S.t 2 = .cptr (cells c.d) ∧ S.t 7 = .d (.int .i64 i) ∧ S.t 8 = .d (.int .i64 j)
theorem ref13Find (c : Cfg) (a : Int) (hc : sizedC c) : Holds Tryz.prog 32 [.d c.d, .d (.int .i64 a)] (foundD (findC c a)) (fun _ => false) := by
 have hsplit : findC c a = none ∨ ∃ x, findC c a = some x := by cases findC c a <;> simp
 refine Holds.by (by kernel_rfl) Tryz.func32 (by kernel_rfl) rfl [20002] (by simp) (by kernel_rfl) (by kernel_rfl) (by rcases hsplit with h | ⟨x, h⟩ <;> rw [h] <;> rfl) ?_
 conv in ccs _ => cbv
 have hl := hc.1
 simp (config := sc) (disch := try exact dd) [std]
 refine oc (ref13Check c hc) ?_
 by_cases hk : checkS c = 0
 ·have hrs : rightC c = spotsS c := by simp [rightC, hk]
  simp (config := sc) (disch := try exact dd) [std, hk]
  refine lp (rfiI c a) (fun i => c.nets.length - i) 0 ⟨by omega, ⟨[], by simp [spotsS], by simp⟩, by simp (config := sc) (disch := try exact dd) [std]⟩ ?_
  rintro i S ⟨hi, ⟨out, ho, hoa⟩, e1, e2, e7⟩
  by_cases hlt : i < c.nets.length
  ·have k6 : (i : Int) < c.nets.length := by omega
   have hns := sized_net hc hlt
   have hd : c.nets.drop i = c.nets[i] :: c.nets.drop (i + 1) := List.drop_eq_getElem_cons hlt
   rw [hd, spotsF, ← List.append_assoc] at ho
   simp (config := sc) (disch := try exact dd) [std, e1, e2, e7, k6]
   refine lp (rfiJ c a i c.nets[i].subs) (fun j => c.nets[i].subs.length - j) 0 ⟨by omega, ⟨out, by simpa using ho, hoa⟩, by simp (config := sc) (disch := try exact dd) [std, e1, e2, e7]⟩ ?_
   rintro j S ⟨hj, ⟨out, ho, hoa⟩, e1, e2, e7, e8⟩
   by_cases hjlt : j < c.nets[i].subs.length
   ·have k7 : (j : Int) < c.nets[i].subs.length := by omega
    have hd : c.nets[i].subs.drop j = c.nets[i].subs[j] :: c.nets[i].subs.drop (j + 1) := List.drop_eq_getElem_cons hjlt
    rw [hd, subsF] at ho
    have hq := ref01Has c.nets[i].subs[j].base c.nets[i].subs[j].bits a
    cases hb : hasA c.nets[i].subs[j].base c.nets[i].subs[j].bits a with
    | true =>
      have hz : findC c a = some ⟨i, j, c.nets[i].subs[j]⟩ := by
       unfold findC
       rw [hrs]
       exact find_cons (p := hasX a) (by rw [ho, List.append_assoc]; rfl) hoa hb
      rw [hb] at hq
      rw [hz, foundD_s]
      simp (config := sc) (disch := try exact dd) [std, e1, e2, e7, e8, k6, k7]
      refine oc hq ?_
      simp (config := sc) (disch := try exact dd) [std, e1, e2, e7, e8]
    | false =>
      rw [hb] at hq
      simp (config := sc) (disch := try exact dd) [std, e1, e2, e7, e8, k6, k7]
      refine oc hq ?_
      simp (config := sc) (disch := try exact dd) [std, e1, e2, e7, e8]
      exact nxt_of (j + 1) ⟨by omega, ⟨out ++ [⟨i, j, c.nets[i].subs[j]⟩], by simpa using ho, by simp only [List.all_append, hoa, Bool.true_and]; simp [hasX, hb]⟩, by simp (config := sc) (disch := try exact dd) [std, e1, e2, e7, e8]⟩ (by omega)
   ·have k7 : ¬ (j : Int) < c.nets[i].subs.length := by omega
    have hd : c.nets[i].subs.drop j = [] := by simp; omega
    rw [hd, subsF, List.append_nil] at ho
    simp (config := sc) (disch := try exact dd) [std, e1, e2, e7, e8, k6, k7]
    exact nxt_of (i + 1) ⟨by omega, ⟨out, ho, hoa⟩, by simp (config := sc) (disch := try exact dd) [std, e1, e2, e7, e8]⟩ (by omega)
  ·have k6 : ¬ (i : Int) < c.nets.length := by omega
   have hd : c.nets.drop i = [] := by simp; omega
   rw [hd, spotsF, List.append_nil] at ho
   have hz : findC c a = none := by
    unfold findC
    rw [hrs]
    exact find_out (p := hasX a) ho hoa
   rw [hz, foundD_n]
   simp (config := sc) (disch := try exact dd) [std, e1, e2, e7, k6]
 ·have hz : findC c a = none := by simp [findC, rightC, hk]
  rw [hz, foundD_n]
  simp (config := sc) (disch := try exact dd) [std, hk]
def rwT (c : Cfg) (w : Int) (i : Nat) (S : PS) : Prop :=
 i ≤ c.nets.length ∧ (∃ out, spotsS c = out ++ spotsF i (c.nets.drop i) ∧ out.all (fun y => !wireX w y) = true) ∧ S.t 1 = .d (.int .i64 w) ∧ S.t 2 = .cptr (cells c.d) ∧ S.t 7 = .d (.int .i64 i)
def rwJ (c : Cfg) (w : Int) (i : Nat) (l : List Sub) (j : Nat) (S : PS) : Prop :=
 j ≤ l.length ∧ (∃ out, spotsS c = out ++ subsF i j (l.drop j) ++ spotsF (i + 1) (c.nets.drop (i + 1)) ∧ out.all (fun y => !wireX w y) = true) ∧ S.t 1 = .d (.int .i64 w) ∧ S.t 2 = .cptr (cells c.d) ∧ S.t 7 = .d (.int .i64 i) ∧ S.t 8 = .d (.int .i64 j)
theorem ref13OnWire (c : Cfg) (w : Int) (hc : sizedC c) : Holds Tryz.prog 57 [.d c.d, .d (.int .i64 w)] (foundD (wireC c w)) (fun _ => false) := by
 have hsplit : wireC c w = none ∨ ∃ x, wireC c w = some x := by cases wireC c w <;> simp
 refine Holds.by (by kernel_rfl) Tryz.func57 (by kernel_rfl) rfl [20002] (by simp) (by kernel_rfl) (by kernel_rfl) (by rcases hsplit with h | ⟨x, h⟩ <;> rw [h] <;> rfl) ?_
 conv in ccs _ => cbv
 have hl := hc.1
 simp (config := sc) (disch := try exact dd) [std]
 refine oc (ref13Check c hc) ?_
 by_cases hk : checkS c = 0
 ·by_cases hw1 : w < 1
  ·have hz : wireC c w = none := by
    unfold wireC
    rw [List.find?_eq_none]
    intro x _
    have : ¬ 0 < w := by omega
    simp [this]
   rw [hz, foundD_n]
   simp (config := sc) (disch := try exact dd) [std, hk, hw1]
  have hw0 : 0 < w := by omega
  have hrs : rightC c = spotsS c := by simp [rightC, hk]
  simp (config := sc) (disch := try exact dd) [std, hk, hw1]
  refine lp (rwT c w) (fun i => c.nets.length - i) 0 ⟨by omega, ⟨[], by simp [spotsS], by simp⟩, by simp (config := sc) (disch := try exact dd) [std]⟩ ?_
  rintro i S ⟨hi, ⟨out, ho, hoa⟩, e1, e2, e7⟩
  by_cases hlt : i < c.nets.length
  ·have k6 : (i : Int) < c.nets.length := by omega
   have hns := sized_net hc hlt
   have hd : c.nets.drop i = c.nets[i] :: c.nets.drop (i + 1) := List.drop_eq_getElem_cons hlt
   rw [hd, spotsF, ← List.append_assoc] at ho
   simp (config := sc) (disch := try exact dd) [std, e1, e2, e7, k6]
   refine lp (rwJ c w i c.nets[i].subs) (fun j => c.nets[i].subs.length - j) 0 ⟨by omega, ⟨out, by simpa using ho, hoa⟩, by simp (config := sc) (disch := try exact dd) [std, e1, e2, e7]⟩ ?_
   rintro j S ⟨hj, ⟨out, ho, hoa⟩, e1, e2, e7, e8⟩
   by_cases hjlt : j < c.nets[i].subs.length
   ·have k7 : (j : Int) < c.nets[i].subs.length := by omega
    have hd : c.nets[i].subs.drop j = c.nets[i].subs[j] :: c.nets[i].subs.drop (j + 1) := List.drop_eq_getElem_cons hjlt
    rw [hd, subsF] at ho
    by_cases hb : c.nets[i].subs[j].iface = w
    ·have hz : wireC c w = some ⟨i, j, c.nets[i].subs[j]⟩ := by
      unfold wireC
      rw [hrs]
      exact find_cons (p := wireX w) (by rw [ho, List.append_assoc]; rfl) hoa (by simp [wireX, hb, hw0])
     rw [hz, foundD_s]
     simp (config := sc) (disch := try exact dd) [std, e1, e2, e7, e8, k6, k7, eq_true hb]
    ·simp (config := sc) (disch := try exact dd) [std, e1, e2, e7, e8, k6, k7, hb]
     exact nxt_of (j + 1) ⟨by omega, ⟨out ++ [⟨i, j, c.nets[i].subs[j]⟩], by simpa using ho, by simp only [List.all_append, hoa, Bool.true_and]; simp [wireX, hb]⟩, by simp (config := sc) (disch := try exact dd) [std, e1, e2, e7, e8]⟩ (by omega)
   ·have k7 : ¬ (j : Int) < c.nets[i].subs.length := by omega
    have hd : c.nets[i].subs.drop j = [] := by simp; omega
    rw [hd, subsF, List.append_nil] at ho
    simp (config := sc) (disch := try exact dd) [std, e1, e2, e7, e8, k6, k7]
    exact nxt_of (i + 1) ⟨by omega, ⟨out, ho, hoa⟩, by simp (config := sc) (disch := try exact dd) [std, e1, e2, e7, e8]⟩ (by omega)
  ·have k6 : ¬ (i : Int) < c.nets.length := by omega
   have hd : c.nets.drop i = [] := by simp; omega
   rw [hd, spotsF, List.append_nil] at ho
   have hz : wireC c w = none := by
    unfold wireC
    rw [hrs]
    exact find_out (p := wireX w) ho hoa
   rw [hz, foundD_n]
   simp (config := sc) (disch := try exact dd) [std, e1, e2, e7, k6]
 ·have hz : wireC c w = none := by simp [wireC, rightC, hk]
  rw [hz, foundD_n]
  simp (config := sc) (disch := try exact dd) [std, hk]
end Go.Proofs.YtnkmlhlegndlhaaGreat
