/- Configurations: what the document's layer 13 answers, first part. -/
import Derived.Test.YtnkmlhlegndlhaaGreatConfQ
namespace Go.Proofs.YtnkmlhlegndlhaaGreat
open BoEng Go
set_option maxRecDepth 100000
attribute [-simp] List.map_take List.map_drop List.length_flatMap
set_option linter.unusedSimpArgs false
set_option linter.unusedVariables false
theorem subsF_all (p : Sub → Bool) : ∀ (k i : Nat) (l : List Sub), (subsF k i l).all (fun x => p x.s) = l.all p
 | _, _, [] => rfl
 | k, i, s :: l => by simp [subsF, subsF_all p k (i + 1) l]
theorem spotsF_all (p : Sub → Bool) : ∀ (k : Nat) (l : List Net), (spotsF k l).all (fun x => p x.s) = l.all fun n => n.subs.all p
 | _, [] => rfl
 | k, n :: l => by simp [spotsF, subsF_all, spotsF_all p (k + 1) l]
def netFair (n : Net) : Bool := n.subs.all fairS
def netBoth (n : Net) : Bool := netOk n && netFair n
def netPlaced (server : Int) (n : Net) : Bool := n.subs.all (placedX server)
theorem all_and {α : Type} (p q : α → Bool) (l : List α) : (l.all fun x => p x && q x) = (l.all p && l.all q) := by
 induction l with
 | nil => rfl
 | cons x l ih =>
   simp only [List.all_cons, ih]
   cases p x <;> cases q x <;> cases l.all p <;> rfl
theorem form_nets (c : Cfg) : (c.nets.all netOk && (spotsS c).all fairX) = c.nets.all netBoth := by
 have h := spotsF_all fairS 0 c.nets
 show (c.nets.all netOk && (spotsF 0 c.nets).all fun x => fairS x.s) = _
 rw [h]
 exact (all_and netOk netFair c.nets).symm
theorem placed_nets (c : Cfg) : placedS c = c.nets.all (netPlaced c.server) := spotsF_all (placedX c.server) 0 c.nets
theorem form_at {c : Cfg} (hf : formS c = true) {i k : Nat} (hi : i < c.nets.length) (hk : k < c.nets[i].subs.length) : fairS c.nets[i].subs[k] = true := by
 have h : c.nets.all netBoth = true := by
  rw [← form_nets]
  simp only [formS, Bool.and_eq_true] at hf
  simp only [Bool.and_eq_true]
  exact ⟨hf.1.2, hf.2⟩
 have h1 := List.all_eq_true.1 h _ (List.getElem_mem hi)
 simp only [netBoth, Bool.and_eq_true, netFair] at h1
 exact List.all_eq_true.1 h1.2 _ (List.getElem_mem hk)
theorem sized_sub {c : Cfg} (hc : sizedC c) {i k : Nat} (hi : i < c.nets.length) (hk : k < c.nets[i].subs.length) : sizedS c.nets[i].subs[k] := (hc.2 _ (List.getElem_mem hi)).2 _ (List.getElem_mem hk)
theorem sized_net {c : Cfg} (hc : sizedC c) {i : Nat} (hi : i < c.nets.length) : c.nets[i].subs.length ≤ 1000 := (hc.2 _ (List.getElem_mem hi)).1
def rsI (s : Sub) (i : Nat) (S : PS) : Prop :=
 i ≤ s.pools.length ∧ (s.pools.take i).all rngOk = true ∧ S.t 1 = .cptr (cells s.d) ∧ S.t 3 = .d (.int .i64 i)
def rsJ (s : Sub) (i : Nat) (S : PS) : Prop :=
 i ≤ s.res.length ∧ (s.res.take i).all resKey = true ∧ S.t 1 = .cptr (cells s.d) ∧ S.t 4 = .d (.int .i64 i)
theorem ref13Subnet (s : Sub) (hs : sizedS s) : Holds Tryz.prog 118 [.d s.d] (.d (.bool (fairS s))) (fun _ => false) := by
 refine Holds.by (by kernel_rfl) Tryz.func118 (by kernel_rfl) rfl [20001] (by simp) (by kernel_rfl) (by kernel_rfl) rfl ?_
 conv in ccs _ => cbv
 obtain ⟨hp, hr, hk⟩ := hs
 by_cases hh : fairA s.base s.bits = true ∧ 8 ≤ s.bits ∧ s.bits ≤ 30 ∧ s.pools.length ≤ 4 ∧ s.res.length ≤ 8 ∧ 0 ≤ s.iface ∧ s.iface ≤ 99 ∧ 1 ≤ s.time ∧ s.time ≤ 2147483648
 ·obtain ⟨h0, h1, h2, h3, h4, h5, h6, h7, h8⟩ := hh
  have hd : fairS s = (s.pools.all rngOk && s.res.all resKey) := by
   simp only [fairS, h0, h1, h2, h3, h4, h5, h6, h7, h8, and_self, decide_true, Bool.true_and]
  rw [hd]
  simp (config := sc) (disch := try exact dd) [std]
  refine oc (ref01Fair _ _) ?_
  simp (config := sc) (disch := try exact dd) [std, h0]
  refine lp (rsI s) (fun i => s.pools.length - i) 0 ⟨by omega, by simp, by simp⟩ ?_
  rintro i S ⟨hi, ha, e1, e3⟩
  by_cases hlt : i < s.pools.length
  ·have k6 : (i : Int) < s.pools.length := by omega
   by_cases hb : s.pools[i].first ≤ s.pools[i].last
   ·have hb' : ¬ s.pools[i].last < s.pools[i].first := by omega
    simp (config := sc) (disch := try exact dd) [std, e1, e3, k6, hb']
    exact nxt_of (i + 1) ⟨by omega, allc_step hlt ha (decide_eq_true hb), by simp (config := sc) (disch := try exact dd) [std, e1, e3]⟩ (by omega)
   ·have hb' : s.pools[i].last < s.pools[i].first := by omega
    have hbad := allc_bad (p := rngOk) hlt (decide_eq_false hb)
    rw [hbad]
    simp (config := sc) (disch := try exact dd) [std, e1, e3, k6, hb']
  ·have k6 : ¬ (i : Int) < s.pools.length := by omega
   rw [allc_end hlt ha]
   simp (config := sc) (disch := try exact dd) [std, e1, e3, k6]
   refine lp (rsJ s) (fun i => s.res.length - i) 0 ⟨by omega, by simp, by simp (config := sc) (disch := try exact dd) [std, e1]⟩ ?_
   rintro i S ⟨hi, ha, e1, e4⟩
   by_cases hlt : i < s.res.length
   ·have k6 : (i : Int) < s.res.length := by omega
    have hkl := hk _ (List.getElem_mem hlt)
    cases hb : keyR s.res[i].key with
    | true =>
      simp (config := sc) (disch := try exact dd) [std, e1, e4, k6]
      refine oc (ref07Right s.res[i].key (by omega)) ?_
      simp (config := sc) (disch := try exact dd) [std, e1, e4, hb]
      exact nxt_of (i + 1) ⟨by omega, allc_step hlt ha hb, by simp (config := sc) (disch := try exact dd) [std, e1, e4]⟩ (by omega)
    | false =>
      have hbad := allc_bad (p := resKey) hlt hb
      rw [hbad]
      simp (config := sc) (disch := try exact dd) [std, e1, e4, k6]
      refine oc (ref07Right s.res[i].key (by omega)) ?_
      simp (config := sc) (disch := try exact dd) [std, e1, e4, hb]
   ·have k6 : ¬ (i : Int) < s.res.length := by omega
    rw [allc_end hlt ha]
    simp (config := sc) (disch := try exact dd) [std, e1, e4, k6]
 ·have hd : fairS s = false := by
   rw [Bool.eq_false_iff]
   intro h
   simp only [fairS, Bool.and_eq_true, decide_eq_true_eq] at h
   exact hh ⟨h.1.1.1.1.1.1.1, h.1.1.1.1.1.1.2.1, h.1.1.1.1.1.1.2.2, h.1.1.1.1.1.2, h.1.1.1.1.2, h.1.1.1.2.1, h.1.1.1.2.2, h.1.1.2.1, h.1.1.2.2⟩
  rw [hd]
  cases h0 : fairA s.base s.bits with
  | false => repeat' (first | (simp (config := sc) (disch := try exact dd) [*, std]) | (refine oc (ref01Fair _ _) ?_) | (refine sel_by ?_ ?_ <;> intro hc <;> have hc2 := hc <;> (try simp only [decide_eq_true_eq, decide_eq_false_iff_not, Bool.and_eq_true, Bool.or_eq_true, Bool.not_eq_true', Bool.not_eq_false', Bool.or_eq_false_iff, Bool.and_eq_false_iff] at hc2) <;> try omega) | (refine cnd_by ?_ ?_ <;> intro hc <;> have hc2 := hc <;> (try simp only [decide_eq_true_eq, decide_eq_false_iff_not, Bool.and_eq_true, Bool.or_eq_true, Bool.not_eq_true', Bool.not_eq_false', Bool.or_eq_false_iff, Bool.and_eq_false_iff] at hc2) <;> try omega) | (refine onSt_if (by omega) ?_) | (split <;> try omega) | omega)
  | true =>
    have hh2 : ¬ (8 ≤ s.bits ∧ s.bits ≤ 30 ∧ s.pools.length ≤ 4 ∧ s.res.length ≤ 8 ∧ 0 ≤ s.iface ∧ s.iface ≤ 99 ∧ 1 ≤ s.time ∧ s.time ≤ 2147483648) := fun h => hh ⟨h0, h⟩
    clear hh
    simp (config := sc) (disch := try exact dd) [std]
    refine oc (ref01Fair _ _) ?_
    by_cases c1 : s.bits < 8
    ·simp (config := sc) (disch := try exact dd) [std, h0, c1]
    by_cases c2 : 30 < s.bits
    ·simp (config := sc) (disch := try exact dd) [std, h0, c1, c2]
    by_cases c3 : (4 : Int) < s.pools.length
    ·simp (config := sc) (disch := try exact dd) [std, h0, c1, c2, c3]
    by_cases c4 : (8 : Int) < s.res.length
    ·simp (config := sc) (disch := try exact dd) [std, h0, c1, c2, c3, c4]
    by_cases c5 : s.iface < 0
    ·simp (config := sc) (disch := try exact dd) [std, h0, c1, c2, c3, c4, c5]
    by_cases c6 : 99 < s.iface
    ·simp (config := sc) (disch := try exact dd) [std, h0, c1, c2, c3, c4, c5, c6]
    by_cases c7 : s.time < 1
    ·simp (config := sc) (disch := try exact dd) [std, h0, c1, c2, c3, c4, c5, c6, c7]
    by_cases c8 : 2147483648 < s.time
    ·simp (config := sc) (disch := try exact dd) [std, h0, c1, c2, c3, c4, c5, c6, c7, c8]
    exact absurd ⟨by omega, by omega, by omega, by omega, by omega, by omega, by omega, by omega⟩ hh2
def rfoI (c : Cfg) (i : Nat) (S : PS) : Prop :=
 i ≤ c.nets.length ∧ (c.nets.take i).all netBoth = true ∧ S.t 1 = .cptr (cells c.d) ∧ S.t 3 = .d (.int .i64 i)
def rfoJ (c : Cfg) (i : Nat) (l : List Sub) (k : Nat) (S : PS) : Prop :=
 k ≤ l.length ∧ (l.take k).all fairS = true ∧ S.t 1 = .cptr (cells c.d) ∧ S.t 3 = .d (.int .i64 i) ∧ S.t 4 = .d (.int .i64 k)
theorem ref13Form (c : Cfg) (hc : sizedC c) : Holds Tryz.prog 65 [.d c.d] (.d (.bool (formS c))) (fun _ => false) := by
 refine Holds.by (by kernel_rfl) Tryz.func65 (by kernel_rfl) rfl [20001] (by simp) (by kernel_rfl) (by kernel_rfl) rfl ?_
 conv in ccs _ => cbv
 have hl := hc.1
 have hd0 : formS c = (rightA c.server && decide (1 ≤ c.probation ∧ c.probation ≤ 2147483648) && decide (c.nets.length ≤ 4) && c.nets.all netBoth) := by
  rw [← form_nets]
  simp only [formS, Bool.and_assoc]
 cases h0 : rightA c.server with
 | false =>
   rw [hd0, h0]
   repeat' (first | (simp (config := sc) (disch := try exact dd) [*, std]) | (refine oc (ref01Right _) ?_) | (refine sel_by ?_ ?_ <;> intro hc <;> have hc2 := hc <;> (try simp only [decide_eq_true_eq, decide_eq_false_iff_not, Bool.and_eq_true, Bool.or_eq_true, Bool.not_eq_true', Bool.not_eq_false', Bool.or_eq_false_iff, Bool.and_eq_false_iff] at hc2) <;> try omega) | (refine cnd_by ?_ ?_ <;> intro hc <;> have hc2 := hc <;> (try simp only [decide_eq_true_eq, decide_eq_false_iff_not, Bool.and_eq_true, Bool.or_eq_true, Bool.not_eq_true', Bool.not_eq_false', Bool.or_eq_false_iff, Bool.and_eq_false_iff] at hc2) <;> try omega) | (refine onSt_if (by omega) ?_) | (split <;> try omega) | omega)
 | true =>
   by_cases hh : 1 ≤ c.probation ∧ c.probation ≤ 2147483648 ∧ c.nets.length ≤ 4
   ·obtain ⟨h1, h2, h3⟩ := hh
    have hd : formS c = c.nets.all netBoth := by
     rw [hd0]
     simp only [h0, h1, h2, h3, and_self, decide_true, Bool.true_and]
    rw [hd]
    clear hd hd0
    simp (config := sc) (disch := try exact dd) [std]
    refine oc (ref01Right _) ?_
    simp (config := sc) (disch := try exact dd) [std, h0]
    refine lp (rfoI c) (fun i => c.nets.length - i) 0 ⟨by omega, by simp, by simp⟩ ?_
    rintro i S ⟨hi, ha, e1, e3⟩
    by_cases hlt : i < c.nets.length
    ·have k6 : (i : Int) < c.nets.length := by omega
     have hsn := sized_net hc hlt
     by_cases hn : 1 ≤ c.nets[i].subs.length ∧ c.nets[i].subs.length ≤ 4
     ·have k1 : ¬ c.nets[i].subs = [] := fun h => by rw [h] at hn; simp at hn
      have k2 : ¬ (4 : Int) < c.nets[i].subs.length := by omega
      have hno : netOk c.nets[i] = true := decide_eq_true hn
      simp (config := sc) (disch := try exact dd) [std, e1, e3, k6, k1, k2]
      refine lp (rfoJ c i c.nets[i].subs) (fun k => c.nets[i].subs.length - k) 0 ⟨by omega, by simp, by simp (config := sc) (disch := try exact dd) [std, e1, e3]⟩ ?_
      rintro k S ⟨hk, hka, e1, e3, e4⟩
      by_cases hlt2 : k < c.nets[i].subs.length
      ·have k7 : (k : Int) < c.nets[i].subs.length := by omega
       have hsz := sized_sub hc hlt hlt2
       cases hb : fairS c.nets[i].subs[k] with
       | true =>
         simp (config := sc) (disch := try exact dd) [std, e1, e3, e4, k6, k7]
         refine oc (ref13Subnet c.nets[i].subs[k] hsz) ?_
         simp (config := sc) (disch := try exact dd) [std, e1, e3, e4, hb]
         exact nxt_of (k + 1) ⟨by omega, allc_step hlt2 hka hb, by simp (config := sc) (disch := try exact dd) [std, e1, e3, e4]⟩ (by omega)
       | false =>
         have hbad : c.nets.all netBoth = false := allc_bad hlt (by simp only [netBoth, netFair, allc_bad hlt2 hb, Bool.and_false])
         rw [hbad]
         simp (config := sc) (disch := try exact dd) [std, e1, e3, e4, k6, k7]
         refine oc (ref13Subnet c.nets[i].subs[k] hsz) ?_
         simp (config := sc) (disch := try exact dd) [std, e1, e3, e4, hb]
      ·have k7 : ¬ (k : Int) < c.nets[i].subs.length := by omega
       simp (config := sc) (disch := try exact dd) [std, e1, e3, e4, k6, k7]
       exact nxt_of (i + 1) ⟨by omega, allc_step hlt ha (by simp only [netBoth, netFair, hno, allc_end hlt2 hka, Bool.and_self]), by simp (config := sc) (disch := try exact dd) [std, e1, e3, e4]⟩ (by omega)
     ·have hno : netOk c.nets[i] = false := decide_eq_false hn
      have hbad : c.nets.all netBoth = false := allc_bad hlt (by simp only [netBoth, hno, Bool.false_and])
      rw [hbad]
      by_cases k1 : c.nets[i].subs = []
      ·simp (config := sc) (disch := try exact dd) [std, e1, e3, k6, k1]
      ·have k0 : 0 < c.nets[i].subs.length := List.length_pos_iff.2 k1
       have k2 : (4 : Int) < c.nets[i].subs.length := by omega
       simp (config := sc) (disch := try exact dd) [std, e1, e3, k6, k1, k2]
    ·have k6 : ¬ (i : Int) < c.nets.length := by omega
     rw [allc_end hlt ha]
     simp (config := sc) (disch := try exact dd) [std, e1, e3, k6]
   ·have hd : formS c = false := by
     rw [Bool.eq_false_iff]
     intro h
     rw [hd0] at h
     simp only [Bool.and_eq_true, decide_eq_true_eq] at h
     exact hh ⟨h.1.1.2.1, h.1.1.2.2, h.1.2⟩
    rw [hd]
    clear hd hd0
    simp (config := sc) (disch := try exact dd) [std]
    refine oc (ref01Right _) ?_
    by_cases c1 : c.probation < 1
    ·simp (config := sc) (disch := try exact dd) [std, h0, c1]
    by_cases c2 : 2147483648 < c.probation
    ·simp (config := sc) (disch := try exact dd) [std, h0, c1, c2]
    have c3 : (4 : Int) < c.nets.length := by omega
    simp (config := sc) (disch := try exact dd) [std, h0, c1, c2, c3]
theorem ref13Lends (s : Sub) (a : Int) (hf : fairA s.base s.bits = true) : Holds Tryz.prog 119 [.d s.d, .d (.int .i64 a)] (.d (.bool (insideS s a))) (fun _ => false) := by
 refine Holds.by (by kernel_rfl) Tryz.func119 (by kernel_rfl) rfl [20002] (by simp) (by kernel_rfl) (by kernel_rfl) rfl ?_
 conv in ccs _ => cbv
 repeat' (first | (simp (config := sc) (disch := try exact dd) [*, std, insideS]) | (refine oc (ref01Last s.base s.bits hf) ?_) | (refine sel_by ?_ ?_ <;> intro hc <;> have hc2 := hc <;> (try simp only [decide_eq_true_eq, decide_eq_false_iff_not, Bool.and_eq_true, Bool.or_eq_true, Bool.not_eq_true', Bool.not_eq_false', Bool.or_eq_false_iff, Bool.and_eq_false_iff] at hc2) <;> try omega) | (refine cnd_by ?_ ?_ <;> intro hc <;> have hc2 := hc <;> (try simp only [decide_eq_true_eq, decide_eq_false_iff_not, Bool.and_eq_true, Bool.or_eq_true, Bool.not_eq_true', Bool.not_eq_false', Bool.or_eq_false_iff, Bool.and_eq_false_iff] at hc2) <;> try omega) | (refine onSt_if (by omega) ?_) | (split <;> try omega) | omega)
def rpN (c : Cfg) (i : Nat) (S : PS) : Prop :=
 i ≤ c.nets.length ∧ (c.nets.take i).all (netPlaced c.server) = true ∧ S.t 1 = .cptr (cells c.d) ∧ S.t 3 = .d (.int .i64 i)
def rpK (c : Cfg) (i : Nat) (l : List Sub) (k : Nat) (S : PS) : Prop :=
 k ≤ l.length ∧ (l.take k).all (placedX c.server) = true ∧ S.t 1 = .cptr (cells c.d) ∧ S.t 3 = .d (.int .i64 i) ∧ S.t 4 = .d (.int .i64 k)
def rpP (c : Cfg) (s : Sub) (i k fo g : Nat) (n : Nat) (S : PS) : Prop :=
 n ≤ s.pools.length ∧ (s.pools.take n).all (poolOk c.server s) = true ∧ S.t 1 = .cptr (cells c.d) ∧ S.t 3 = .d (.int .i64 i) ∧ S.t 4 = .d (.int .i64 k) ∧
   S.t 5 = .ptr (fo + 5) g 0 ∧ S.fo = fo ∧ S.gen (fo + 5) = g ∧ S.box (fo + 5) = (cells s.d).map .d ∧ S.t 6 = .d (.int .i64 n)
def rpR (c : Cfg) (s : Sub) (i k fo g : Nat) (n : Nat) (S : PS) : Prop :=
 n ≤ s.res.length ∧ (s.res.take n).all (resOkS c.server s) = true ∧ S.t 1 = .cptr (cells c.d) ∧ S.t 3 = .d (.int .i64 i) ∧ S.t 4 = .d (.int .i64 k) ∧
   S.t 5 = .ptr (fo + 5) g 0 ∧ S.fo = fo ∧ S.gen (fo + 5) = g ∧ S.box (fo + 5) = (cells s.d).map .d ∧ S.t 8 = .d (.int .i64 n)
theorem ref13Places (c : Cfg) (hc : sizedC c) (hf : formS c = true) : Holds Tryz.prog 66 [.d c.d] (.d (.bool (placedS c))) (fun _ => false) := by
 refine Holds.by (by kernel_rfl) Tryz.func66 (by kernel_rfl) rfl [20001] (by simp) (by kernel_rfl) (by kernel_rfl) rfl ?_
 conv in ccs _ => cbv
 have hl := hc.1
 rw [placed_nets]
 simp (config := sc) (disch := try exact dd) [std]
 refine lp (rpN c) (fun i => c.nets.length - i) 0 ⟨by omega, by simp, by simp (config := sc) (disch := try exact dd) [std]⟩ ?_
 rintro i S ⟨hi, ha, e1, e3⟩
 by_cases hlt : i < c.nets.length
 ·have k6 : (i : Int) < c.nets.length := by omega
  have hsn := sized_net hc hlt
  simp (config := sc) (disch := try exact dd) [std, e1, e3, k6]
  refine lp (rpK c i c.nets[i].subs) (fun k => c.nets[i].subs.length - k) 0 ⟨by omega, by simp, by simp (config := sc) (disch := try exact dd) [std, e1, e3]⟩ ?_
  rintro k S ⟨hk, hka, e1, e3, e4⟩
  by_cases hlt2 : k < c.nets[i].subs.length
  ·have k7 : (k : Int) < c.nets[i].subs.length := by omega
   have hsz := sized_sub hc hlt hlt2
   have hfa := fair_A (form_at hf hlt hlt2)
   have hpx : placedX c.server c.nets[i].subs[k] = false → c.nets.all (netPlaced c.server) = false := fun h => allc_bad hlt (allc_bad (p := placedX c.server) hlt2 h)
   have hpy := @allc_step _ (placedX c.server) _ k hlt2 hka
   simp (config := sc) (disch := try exact dd) [std, e1, e3, e4, k6, k7]
   generalize hx : c.nets[i].subs[k] = s at hsz hfa hpx hpy
   obtain ⟨hp, hr, hkk⟩ := hsz
   refine lp (rpP c s i k S.fo (S.gen (S.fo + 5) + 1)) (fun n => s.pools.length - n) 0 ⟨by omega, by simp, by simp (config := sc) (disch := try exact dd) [std, e1, e3, e4, hx]⟩ ?_
   rintro n S1 ⟨hn, hna, e1, e3, e4, e5, efo, eg, eb, e6⟩
   simp only [Sub.d_eq, cells_agg, List.map_cons, List.map_nil] at eb
   by_cases hlt3 : n < s.pools.length
   ·have k8 : (n : Int) < s.pools.length := by omega
    have hbx := @allc_bad _ (poolOk c.server s) _ n hlt3
    have hby := @allc_step _ (poolOk c.server s) _ n hlt3 hna
    have hdef : poolOk c.server s s.pools[n] = (insideS s s.pools[n].first && insideS s s.pools[n].last && !inR s.pools[n] c.server) := rfl
    rw [hdef] at hbx hby
    have hpl : (s.pools.all (poolOk c.server s)) = false → c.nets.all (netPlaced c.server) = false := fun h => hpx (by simp [placedX, h])
    simp (config := sc) (disch := try exact dd) [std, e1, e3, e4, e5, efo, eg, eb, e6, k8]
    refine oc (ref13Lends s s.pools[n].first hfa) ?_
    cases h1 : insideS s s.pools[n].first with
    | false =>
      have hz := hpl (hbx (by simp [h1]))
      simp (config := sc) (disch := try exact dd) [std, hz]
    | true =>
      simp (config := sc) (disch := try exact dd) [std, e1, e3, e4, e5, efo, eg, eb, e6, k8]
      refine oc (ref13Lends s s.pools[n].last hfa) ?_
      cases h2 : insideS s s.pools[n].last with
      | false =>
        have hz := hpl (hbx (by simp [h2]))
        simp (config := sc) (disch := try exact dd) [std, hz]
      | true =>
        by_cases h3 : s.pools[n].first ≤ c.server
        ·by_cases h4 : c.server ≤ s.pools[n].last
         ·have hz := hpl (hbx (by simp [inR, h3, h4]))
          simp (config := sc) (disch := try exact dd) [std, e1, e3, e4, e5, efo, eg, eb, e6, k8, h3, h4, hz]
         ·simp (config := sc) (disch := try exact dd) [std, e1, e3, e4, e5, efo, eg, eb, e6, k8, h3, h4]
          exact nxt_of (n + 1) ⟨by omega, hby (by simp [h1, h2, inR, h4]), by simp (config := sc) (disch := try exact dd) [std, e1, e3, e4, e5, efo, eg, eb, e6]⟩ (by omega)
        ·simp (config := sc) (disch := try exact dd) [std, e1, e3, e4, e5, efo, eg, eb, e6, k8, h3]
         exact nxt_of (n + 1) ⟨by omega, hby (by simp [h1, h2, inR, h3]), by simp (config := sc) (disch := try exact dd) [std, e1, e3, e4, e5, efo, eg, eb, e6]⟩ (by omega)
   ·have k8 : ¬ (n : Int) < s.pools.length := by omega
    have hpall := allc_end hlt3 hna
    simp (config := sc) (disch := try exact dd) [std, e1, e3, e4, e5, efo, eg, eb, e6, k8]
    refine lp (rpR c s i k S.fo (S.gen (S.fo + 5) + 1)) (fun n => s.res.length - n) 0 ⟨by omega, by simp, by simp (config := sc) (disch := try exact dd) [std, e1, e3, e4, e5, efo, eg, eb]⟩ ?_
    clear e1 e3 e4 e5 efo eg eb e6
    rintro n S2 ⟨hn, hna, e1, e3, e4, e5, efo, eg, eb, e8⟩
    simp only [Sub.d_eq, cells_agg, List.map_cons, List.map_nil] at eb
    by_cases hlt4 : n < s.res.length
    ·have k8 : (n : Int) < s.res.length := by omega
     have hbx := @allc_bad _ (resOkS c.server s) _ n hlt4
     have hby := @allc_step _ (resOkS c.server s) _ n hlt4 hna
     have hdef : resOkS c.server s s.res[n] = (insideS s s.res[n].addr && !decide (s.res[n].addr = c.server)) := rfl
     rw [hdef] at hbx hby
     have hpl : (s.res.all (resOkS c.server s)) = false → c.nets.all (netPlaced c.server) = false := fun h => hpx (by simp [placedX, h])
     simp (config := sc) (disch := try exact dd) [std, e1, e3, e4, e5, efo, eg, eb, e8, k8]
     refine oc (ref13Lends s s.res[n].addr hfa) ?_
     cases h1 : insideS s s.res[n].addr with
     | false =>
       have hz := hpl (hbx (by simp [h1]))
       simp (config := sc) (disch := try exact dd) [std, hz]
     | true =>
       by_cases h2 : s.res[n].addr = c.server
       ·have hz := hpl (hbx (by simp [h2]))
        simp (config := sc) (disch := try exact dd) [std, e1, e3, e4, e5, efo, eg, eb, e8, k8, eq_true h2, hz]
       ·simp (config := sc) (disch := try exact dd) [std, e1, e3, e4, e5, efo, eg, eb, e8, k8, h2]
        exact nxt_of (n + 1) ⟨by omega, hby (by simp [h1, h2]), by simp (config := sc) (disch := try exact dd) [std, e1, e3, e4, e5, efo, eg, eb, e8]⟩ (by omega)
    ·have k8 : ¬ (n : Int) < s.res.length := by omega
     have hrall := allc_end hlt4 hna
     have hpl : routeOk s = false → c.nets.all (netPlaced c.server) = false := fun h => hpx (by simp [placedX, h])
     have hpo : routeOk s = true → (List.take (k + 1) c.nets[i].subs).all (placedX c.server) = true := fun h => hpy (by simp [placedX, h, hpall, hrall])
     by_cases h1 : s.router = 0
     ·simp (config := sc) (disch := try exact dd) [std, e1, e3, e4, e5, efo, eg, eb, e8, k8, eq_true h1]
      exact nxt_of (k + 1) ⟨by omega, hpo (by simp [routeOk, h1]), by simp (config := sc) (disch := try exact dd) [std, e1, e3, e4]⟩ (by omega)
     ·simp (config := sc) (disch := try exact dd) [std, e1, e3, e4, e5, efo, eg, eb, e8, k8, h1]
      refine oc (ref01Has s.base s.bits s.router) ?_
      cases h2 : hasA s.base s.bits s.router with
      | false =>
        have hz := hpl (by simp [routeOk, h1, h2])
        simp (config := sc) (disch := try exact dd) [std, hz]
      | true =>
        simp (config := sc) (disch := try exact dd) [std, e1, e3, e4]
        exact nxt_of (k + 1) ⟨by omega, hpo (by simp [routeOk, h1, h2]), by simp (config := sc) (disch := try exact dd) [std, e1, e3, e4]⟩ (by omega)
  ·have k7 : ¬ (k : Int) < c.nets[i].subs.length := by omega
   simp (config := sc) (disch := try exact dd) [std, e1, e3, e4, k6, k7]
   exact nxt_of (i + 1) ⟨by omega, allc_step hlt ha (allc_end hlt2 hka), by simp (config := sc) (disch := try exact dd) [std, e1, e3, e4]⟩ (by omega)
 ·have k6 : ¬ (i : Int) < c.nets.length := by omega
  rw [allc_end hlt ha]
  simp (config := sc) (disch := try exact dd) [std, e1, e3, k6]
end Go.Proofs.YtnkmlhlegndlhaaGreat
