/- The address that a client gets: what the document's layer 15 answers. -/
import Derived.Test.YtnkmlhlegndlhaaGreatChoose
namespace Go.Proofs.YtnkmlhlegndlhaaGreat
open BoEng Go
set_option maxRecDepth 100000
attribute [-simp] List.map_take List.map_drop List.length_flatMap
set_option linter.unusedSimpArgs false
set_option linter.unusedVariables false
def pickF (q : LeaseR → Bool) (l : LeaseR) : List Int := if q l then [l.addr] else []
theorem pick_eq {q : LeaseR → Bool} (t : List LeaseR) : (t.filter q).map LeaseR.addr = t.flatMap (pickF q) := by
 induction t with
 | nil => rfl
 | cons l t ih => by_cases h : q l = true <;> simp [pickF, h, ih]
def r15I (c : Cfg) (t : List LeaseR) (n : Int) (k : List UInt8) (want now : Int) (p : Int → Bool) (i : Nat) (S : PS) : Prop :=
 i ≤ t.length ∧ ((t.take i).flatMap (pickF (heldP c n k now))).all (fun a => !p a) = true ∧ S.t 1 = .d (.slice (t.map LeaseR.d)) ∧ S.t 2 = .d (.int .i64 n) ∧ S.t 3 = .d (.str k) ∧ S.t 4 = .d (.int .i64 want) ∧ S.t 5 = .d (.int .i64 now) ∧ S.t 6 = .cptr (cells c.d) ∧
 S.t 12 = .d (.int .i64 0) ∧ S.t 13 = .d (.bool false) ∧ S.t 14 = .d (.bool (!((t.take i).flatMap (pickF (heldP c n k now))).isEmpty)) ∧ S.t 15 = .d (.int .i64 i)
def r15J (c : Cfg) (t : List LeaseR) (n : Int) (k : List UInt8) (want now : Int) (q : LeaseR → Bool) (p : Int → Bool) (i : Nat) (S : PS) : Prop :=
 i ≤ t.length ∧ ((t.take i).flatMap (pickF q)).all (fun a => !p a) = true ∧ S.t 1 = .d (.slice (t.map LeaseR.d)) ∧ S.t 2 = .d (.int .i64 n) ∧ S.t 3 = .d (.str k) ∧ S.t 4 = .d (.int .i64 want) ∧ S.t 5 = .d (.int .i64 now) ∧ S.t 6 = .cptr (cells c.d) ∧
 S.t 12 = .d (.int .i64 0) ∧ S.t 13 = .d (.bool false) ∧ S.t 18 = .d (.int .i64 i)
def r15K (c : Cfg) (t : List LeaseR) (n : Int) (k : List UInt8) (now : Int) (l : List Sub) (S : PS) : Prop :=
 S.t 1 = .d (.slice (t.map LeaseR.d)) ∧ S.t 2 = .d (.int .i64 n) ∧ S.t 3 = .d (.str k) ∧ S.t 5 = .d (.int .i64 now) ∧ S.t 6 = .cptr (cells c.d) ∧
 S.t 12 = .d (.int .i64 0) ∧ S.t 13 = .d (.bool false) ∧ S.t 19 = .d (.slice (l.map Sub.d))
def r15A (c : Cfg) (t : List LeaseR) (n : Int) (k : List UInt8) (now : Int) (l : List Sub) (p : Int → Bool) (i : Nat) (S : PS) : Prop :=
 i ≤ l.length ∧ ((l.take i).flatMap subA).all (fun y => !p y) = true ∧ r15K c t n k now l S ∧ S.t 20 = .d (.int .i64 i)
def r15B (c : Cfg) (t : List LeaseR) (n : Int) (k : List UInt8) (now : Int) (l : List Sub) (p : Int → Bool) (i : Nat) (x : Sub) (j : Nat) (S : PS) : Prop :=
 j ≤ x.pools.length ∧ ((x.pools.take j).flatMap poolA).all (fun y => !p y) = true ∧ r15K c t n k now l S ∧ S.t 20 = .d (.int .i64 i) ∧ S.t 21 = .d (.int .i64 j)
def r15C (c : Cfg) (t : List LeaseR) (n : Int) (k : List UInt8) (now : Int) (l : List Sub) (p : Int → Bool) (i j : Nat) (y : Rng) (u : Nat) (S : PS) : Prop :=
 u ≤ (poolA y).length ∧ ((poolA y).take u).all (fun y => !p y) = true ∧ r15K c t n k now l S ∧ S.t 20 = .d (.int .i64 i) ∧ S.t 21 = .d (.int .i64 j) ∧ S.t 22 = .d (.int .i64 (y.first + (u : Int)))
theorem held_one {t : List LeaseR} {q : LeaseR → Bool} {i : Nat} (h : i < t.length) : (!((t.take (i + 1)).flatMap (pickF q)).isEmpty) = (!((t.take i).flatMap (pickF q)).isEmpty || q t[i]) := by
 rw [List.take_succ_eq_append_getElem h, List.flatMap_append]
 cases hq : q t[i] <;> simp [pickF, hq]
set_option maxHeartbeats 8000000 in
theorem ref15Choose (c : Cfg) (t : List LeaseR) (n : Int) (k : List UInt8) (want now : Int) (hc : sizedC c) (ht : TSz t) (hkk : k.length ≤ 9223372036854775807) :
  Holds Tryz.prog 50 [.d c.d, .d (.slice (t.map LeaseR.d)), .d (.int .i64 n), .d (.str k), .d (.int .i64 want), .d (.int .i64 now)] (.tup [.d (.int .i64 ((chooseS c t n k want now).getD 0)), .d (.bool (chooseS c t n k want now).isSome)]) (fun _ => false) := by
 refine Holds.by (by kernel_rfl) Tryz.func50 (by kernel_rfl) rfl [20006] (by simp) (by kernel_rfl) (by kernel_rfl) rfl ?_
 conv in ccs _ => cbv
 have q1 := ref15Fair c t n k hc ht.l ht.k hkk
 have hm := fun a => ref15May c t n k a now hc ht hkk
 have hl := ht.l
 unfold chooseS
 cases hf : fairN c t n k with
 | false =>
   rw [hf] at q1
   simp (config := sc) (disch := try exact dd) [std]
   refine oc q1 ?_
   simp (config := sc) (disch := try exact dd) [std]
 | true =>
 rw [hf] at q1
 rw [if_neg (by decide)]
 obtain ⟨hck, _, _, hn0, hn1⟩ := fair_parts hf
 obtain ⟨m, rfl⟩ := Int.eq_ofNat_of_zero_le hn0
 have hn1 : m < c.nets.length := by omega
 have hrng := fun j h2 p hp => @pool_rng c hck m j hn1 h2 p hp
 have hall : allA c (m : Int) = c.nets[m].subs.flatMap subA := by simp [allA, List.getElem?_eq_getElem hn1]
 have hsn := (hc.2 _ (List.getElem_mem hn1)).1
 have hss := (hc.2 _ (List.getElem_mem hn1)).2
 have hl1 := hc.1
 have hO : heldS c t m k now = [] → oldS c t m k now = t.flatMap (pickF (fun l => ofP k l && inN c m l.addr)) := by
  intro h
  unfold heldS oldS at *
  rw [List.map_eq_nil_iff, List.filter_eq_nil_iff] at h
  rw [← pick_eq]
  congr 1
  refine List.filter_congr fun l hl => ?_
  have := h l hl
  unfold heldP at this
  unfold oldP
  cases h1 : ofP k l <;> cases h2 : inN c m l.addr <;> cases h3 : holdsL now l <;> simp_all
 rw [hall]
 have hh : heldS c t m k now = t.flatMap (pickF (heldP c m k now)) := pick_eq t
 clear hall
 generalize hN : c.nets[m] = N at *
 obtain ⟨l⟩ := N
 dsimp only at hrng hsn hss ⊢
 have q4 := ref13KeptFor c m k hc
 generalize hp : mayS c t (m : Int) k now = p at *
 clear hp
 generalize hH : heldS c t m k now = H at *
 generalize oldS c t m k now = O at *
 generalize hR : chooseF H O (keptS c (m : Int) k) want (l.flatMap subA) p = R
 clear hf
 simp (config := sc) (disch := try exact dd) [std]
 refine oc q1 ?_
 simp (config := sc) (disch := try exact dd) [std]
 refine lp (r15I c t m k want now p) (fun i => t.length - i) 0 ⟨by omega, by simp, by simp, by simp, by simp, by simp, by simp, by simp, by simp, by simp, by simp, by simp⟩ ?_
 rintro i S ⟨hi, ha, e1, e2, e3, e4, e5, e6, e12, e13, e14, e15⟩
 by_cases hlt : i < t.length
 ·have k6 : (i : Int) < t.length := by omega
  have hn : nth t (i : Int) = t[i] := nth_nat hlt
  have r1 := ref12Holds t[i] now
  have r2 := ref15In c m t[i].addr hc
  have r3 := hm t[i].addr
  have hd : heldP c m k now t[i] = (decide (t[i].key = k) && (inN c m t[i].addr && holdsL now t[i])) := rfl
  have hone := @held_one t (heldP c m k now) i hlt
  have hst := fun h => ff_step (f := pickF (heldP c m k now)) (q := fun y => !p y) hlt ha h
  have hsm := fun y h => ff_some (f := pickF (heldP c m k now)) (p := p) (i := i) (y := y) hlt ha h
  have hpf : pickF (heldP c m k now) t[i] = if heldP c m k now t[i] then [t[i].addr] else [] := rfl
  rw [hpf] at hst hsm
  clear hpf
  rw [hd] at hone hst hsm
  clear hd
  generalize inN c m t[i].addr = ib at *
  generalize holdsL now t[i] = hb at *
  generalize t[i] = x at *
  by_cases hxk : x.key = k
  ·have hxd : x.d = .agg [.int .i64 x.addr, .int .i64 x.state, .int .i64 x.expiry, .str k] := by simp [LeaseR.d, hxk]
   rw [hxd] at r1
   clear hxd
   cases hb with
   | false =>
     simp (config := sc) (disch := try exact dd) [std, e1, e2, e3, e4, e5, e6, e12, e13, e14, e15, k6, hn, hxk]
     refine oc r1 ?_
     simp (config := sc) (disch := try exact dd) [std, e1, e2, e3, e4, e5, e6, e12, e13, e14, e15, k6, hn]
     exact nxt_of (i + 1) ⟨by omega, hst (by simp), by simp (config := sc) (disch := try exact dd) [std, e1], by simp (config := sc) (disch := try exact dd) [std, e2], by simp (config := sc) (disch := try exact dd) [std, e3], by simp (config := sc) (disch := try exact dd) [std, e4], by simp (config := sc) (disch := try exact dd) [std, e5], by simp (config := sc) (disch := try exact dd) [std, e6], by simp (config := sc) (disch := try exact dd) [std, e12], by simp (config := sc) (disch := try exact dd) [std, e13], by rw [hone]; simp (config := sc) (disch := try exact dd) [std, e14], by simp (config := sc) (disch := try exact dd) [std]⟩ (by omega)
   | true =>
   cases ib with
   | false =>
     simp (config := sc) (disch := try exact dd) [std, e1, e2, e3, e4, e5, e6, e12, e13, e14, e15, k6, hn, hxk]
     refine oc r1 ?_
     simp (config := sc) (disch := try exact dd) [std, e1, e2, e3, e4, e5, e6, e12, e13, e14, e15, k6, hn]
     refine oc r2 ?_
     simp (config := sc) (disch := try exact dd) [std, e1, e2, e3, e4, e5, e6, e12, e13, e14, e15]
     exact nxt_of (i + 1) ⟨by omega, hst (by simp), by simp (config := sc) (disch := try exact dd) [std, e1], by simp (config := sc) (disch := try exact dd) [std, e2], by simp (config := sc) (disch := try exact dd) [std, e3], by simp (config := sc) (disch := try exact dd) [std, e4], by simp (config := sc) (disch := try exact dd) [std, e5], by simp (config := sc) (disch := try exact dd) [std, e6], by simp (config := sc) (disch := try exact dd) [std, e12], by simp (config := sc) (disch := try exact dd) [std, e13], by rw [hone]; simp (config := sc) (disch := try exact dd) [std, e14], by simp (config := sc) (disch := try exact dd) [std]⟩ (by omega)
   | true =>
   cases hpx : p x.addr with
   | false =>
     rw [hpx] at r3
     simp (config := sc) (disch := try exact dd) [std, e1, e2, e3, e4, e5, e6, e12, e13, e14, e15, k6, hn, hxk]
     refine oc r1 ?_
     simp (config := sc) (disch := try exact dd) [std, e1, e2, e3, e4, e5, e6, e12, e13, e14, e15, k6, hn]
     refine oc r2 ?_
     simp (config := sc) (disch := try exact dd) [std, e1, e2, e3, e4, e5, e6, e12, e13, e14, e15, k6, hn]
     refine oc r3 ?_
     simp (config := sc) (disch := try exact dd) [std, e1, e2, e3, e4, e5, e6, e12, e13, e14, e15]
     exact nxt_of (i + 1) ⟨by omega, hst (by simp [hxk, hpx]), by simp (config := sc) (disch := try exact dd) [std, e1], by simp (config := sc) (disch := try exact dd) [std, e2], by simp (config := sc) (disch := try exact dd) [std, e3], by simp (config := sc) (disch := try exact dd) [std, e4], by simp (config := sc) (disch := try exact dd) [std, e5], by simp (config := sc) (disch := try exact dd) [std, e6], by simp (config := sc) (disch := try exact dd) [std, e12], by simp (config := sc) (disch := try exact dd) [std, e13], by rw [hone]; simp (config := sc) (disch := try exact dd) [std, e14, hxk], by simp (config := sc) (disch := try exact dd) [std]⟩ (by omega)
   | true =>
     rw [hpx] at r3
     have hfi := hsm x.addr (by simp [hxk, hpx])
     rw [← hh] at hfi
     have hne : H ≠ [] := fun e => by rw [e] at hfi; cases hfi
     unfold chooseF at hR
     rw [if_pos hne, hfi] at hR
     subst hR
     simp (config := sc) (disch := try exact dd) [std, e1, e2, e3, e4, e5, e6, e12, e13, e14, e15, k6, hn, hxk]
     refine oc r1 ?_
     simp (config := sc) (disch := try exact dd) [std, e1, e2, e3, e4, e5, e6, e12, e13, e14, e15, k6, hn]
     refine oc r2 ?_
     simp (config := sc) (disch := try exact dd) [std, e1, e2, e3, e4, e5, e6, e12, e13, e14, e15, k6, hn]
     refine oc r3 ?_
     simp (config := sc) (disch := try exact dd) [std, e1, e2, e3, e4, e5, e6, e12, e13, e14, e15, k6, hn]
  ·simp (config := sc) (disch := try exact dd) [std, e1, e2, e3, e4, e5, e6, e12, e13, e14, e15, k6, hn, hxk]
   exact nxt_of (i + 1) ⟨by omega, hst (by simp [hxk]), by simp (config := sc) (disch := try exact dd) [std, e1], by simp (config := sc) (disch := try exact dd) [std, e2], by simp (config := sc) (disch := try exact dd) [std, e3], by simp (config := sc) (disch := try exact dd) [std, e4], by simp (config := sc) (disch := try exact dd) [std, e5], by simp (config := sc) (disch := try exact dd) [std, e6], by simp (config := sc) (disch := try exact dd) [std, e12], by simp (config := sc) (disch := try exact dd) [std, e13], by rw [hone]; simp (config := sc) (disch := try exact dd) [std, e14, hxk], by simp (config := sc) (disch := try exact dd) [std]⟩ (by omega)
 have k6 : ¬ (i : Int) < t.length := by omega
 rw [List.take_of_length_le (by omega)] at ha e14
 rw [← hh] at ha e14
 rcases Classical.em (H ≠ []) with hh0 | hh0
 ·have hz : H.isEmpty = false := by simpa using hh0
  unfold chooseF at hR
  rw [if_pos hh0, fnd_out ha] at hR
  subst hR
  rw [hz] at e14
  simp (config := sc) (disch := try exact dd) [std, e1, e2, e3, e4, e5, e6, e12, e13, e14, e15, k6]
 have hh0 : H = [] := Classical.not_not.1 hh0
 rw [hO hh0] at hR
 clear hO ha
 subst hh0
 unfold chooseF at hR
 rw [if_neg (by simp)] at hR
 have hkp : (∃ b, keptS c (m : Int) k = some b ∧ p b = true) ∨ (keptS c (m : Int) k).toList.find? p = none := by
  cases keptS c (m : Int) k with
  | none => exact .inr rfl
  | some b =>
    cases hb : p b with
    | true => exact .inl ⟨b, rfl, hb⟩
    | false => exact .inr (by simp [hb])
 rcases hkp with ⟨b, hkb, hpb⟩ | hkp
 ·rw [hkb] at q4 hR
  have r3 := hm b
  rw [hpb] at r3
  have hR2 : R = some b := by rw [← hR]; simp [hpb]
  subst hR2
  simp (config := sc) (disch := try exact dd) [std, e1, e2, e3, e4, e5, e6, e12, e13, e14, e15, k6]
  refine oc q4 ?_
  simp (config := sc) (disch := try exact dd) [std, e1, e2, e3, e4, e5, e6]
  refine oc r3 ?_
  simp (config := sc) (disch := try exact dd) [std]
 have hR3 : ((t.flatMap (pickF fun l => ofP k l && inN c m l.addr) ++ [want]).find? p).or ((l.flatMap subA).find? p) = R := by
  rw [← hR, List.append_assoc, List.find?_append, List.find?_append (xs := (keptS c (m : Int) k).toList), hkp, Option.none_or, List.find?_append]
 clear hR
 have hk2 : keptS c (m : Int) k = none ∨ ∃ b, keptS c (m : Int) k = some b ∧ p b = false := by
  cases h : keptS c (m : Int) k with
  | none => exact .inl rfl
  | some b =>
    rw [h] at hkp
    cases hb : p b with
    | true => simp [hb] at hkp
    | false => exact .inr ⟨b, rfl, hb⟩
 clear hkp
 have r4 : ∀ b, p b = false → Holds Tryz.prog 19 [.d c.d, .d (.slice (t.map LeaseR.d)), .d (.int .i64 (m : Int)), .d (.str k), .d (.int .i64 b), .d (.int .i64 now)] (.d (.bool false)) (fun _ => false) := fun b h => by have := hm b; rwa [h] at this
 rcases hk2 with hk2 | ⟨b, hk2, hpb⟩ <;> rw [hk2] at q4 <;> (
  simp (config := sc) (disch := try exact dd) [std, e1, e2, e3, e4, e5, e6, e12, e13, e14, e15, k6]
  refine oc q4 ?_
  simp (config := sc) (disch := try exact dd) [std, e1, e2, e3, e4, e5, e6, e12, e13]
  try refine oc (r4 _ hpb) ?_
  try simp (config := sc) (disch := try exact dd) [std, e1, e2, e3, e4, e5, e6, e12, e13])
 all_goals
  refine lp (r15J c t m k want now (fun l => ofP k l && inN c m l.addr) p) (fun i => t.length - i) 0 ⟨by omega, by simp, by simp (config := sc) (disch := try exact dd) [std, e1], by simp (config := sc) (disch := try exact dd) [std, e2], by simp (config := sc) (disch := try exact dd) [std, e3], by simp (config := sc) (disch := try exact dd) [std, e4], by simp (config := sc) (disch := try exact dd) [std, e5], by simp (config := sc) (disch := try exact dd) [std, e6], by simp (config := sc) (disch := try exact dd) [std, e12], by simp (config := sc) (disch := try exact dd) [std, e13], by simp (config := sc) (disch := try exact dd) [std]⟩ ?_
  clear e1 e2 e3 e4 e5 e6 e12 e13 e14 e15 k6
  rintro i S ⟨hi, ha, e1, e2, e3, e4, e5, e6, e12, e13, e18⟩
  by_cases hlt : i < t.length
  ·have k6 : (i : Int) < t.length := by omega
   have hn : nth t (i : Int) = t[i] := nth_nat hlt
   have r2 := ref15In c m t[i].addr hc
   have r3 := hm t[i].addr
   have hst := fun h => ff_step (f := pickF fun l => ofP k l && inN c m l.addr) (q := fun y => !p y) hlt ha h
   have hsm := fun y h => ff_some (f := pickF fun l => ofP k l && inN c m l.addr) (p := p) (i := i) (y := y) hlt ha h
   have hpf : pickF (fun l => ofP k l && inN c m l.addr) t[i] = if (decide (t[i].key = k) && inN c m t[i].addr) = true then [t[i].addr] else [] := rfl
   rw [hpf] at hst hsm
   clear hpf
   generalize inN c m t[i].addr = ib at *
   generalize t[i] = x at *
   by_cases hxk : x.key = k
   ·cases ib with
    | false =>
      simp (config := sc) (disch := try exact dd) [std, e1, e2, e3, e4, e5, e6, e12, e13, e18, k6, hn, hxk]
      refine oc r2 ?_
      simp (config := sc) (disch := try exact dd) [std, e1, e2, e3, e4, e5, e6, e12, e13, e18, k6, hn]
      exact nxt_of (i + 1) ⟨by omega, hst (by simp), by simp (config := sc) (disch := try exact dd) [std, e1], by simp (config := sc) (disch := try exact dd) [std, e2], by simp (config := sc) (disch := try exact dd) [std, e3], by simp (config := sc) (disch := try exact dd) [std, e4], by simp (config := sc) (disch := try exact dd) [std, e5], by simp (config := sc) (disch := try exact dd) [std, e6], by simp (config := sc) (disch := try exact dd) [std, e12], by simp (config := sc) (disch := try exact dd) [std, e13], by simp (config := sc) (disch := try exact dd) [std]⟩ (by omega)
    | true =>
    cases hpx : p x.addr with
    | false =>
      rw [hpx] at r3
      simp (config := sc) (disch := try exact dd) [std, e1, e2, e3, e4, e5, e6, e12, e13, e18, k6, hn, hxk]
      refine oc r2 ?_
      simp (config := sc) (disch := try exact dd) [std, e1, e2, e3, e4, e5, e6, e12, e13, e18, k6, hn]
      refine oc r3 ?_
      simp (config := sc) (disch := try exact dd) [std, e1, e2, e3, e4, e5, e6, e12, e13, e18]
      exact nxt_of (i + 1) ⟨by omega, hst (by simp [hxk, hpx]), by simp (config := sc) (disch := try exact dd) [std, e1], by simp (config := sc) (disch := try exact dd) [std, e2], by simp (config := sc) (disch := try exact dd) [std, e3], by simp (config := sc) (disch := try exact dd) [std, e4], by simp (config := sc) (disch := try exact dd) [std, e5], by simp (config := sc) (disch := try exact dd) [std, e6], by simp (config := sc) (disch := try exact dd) [std, e12], by simp (config := sc) (disch := try exact dd) [std, e13], by simp (config := sc) (disch := try exact dd) [std]⟩ (by omega)
    | true =>
      rw [hpx] at r3
      have hfi := hsm x.addr (by simp [hxk, hpx])
      rw [List.find?_append, hfi, Option.some_or, Option.some_or] at hR3
      subst hR3
      simp (config := sc) (disch := try exact dd) [std, e1, e2, e3, e4, e5, e6, e12, e13, e18, k6, hn, hxk]
      refine oc r2 ?_
      simp (config := sc) (disch := try exact dd) [std, e1, e2, e3, e4, e5, e6, e12, e13, e18, k6, hn]
      refine oc r3 ?_
      simp (config := sc) (disch := try exact dd) [std, e1, e2, e3, e4, e5, e6, e12, e13, e18, k6, hn]
   ·simp (config := sc) (disch := try exact dd) [std, e1, e2, e3, e4, e5, e6, e12, e13, e18, k6, hn, hxk]
    exact nxt_of (i + 1) ⟨by omega, hst (by simp [hxk]), by simp (config := sc) (disch := try exact dd) [std, e1], by simp (config := sc) (disch := try exact dd) [std, e2], by simp (config := sc) (disch := try exact dd) [std, e3], by simp (config := sc) (disch := try exact dd) [std, e4], by simp (config := sc) (disch := try exact dd) [std, e5], by simp (config := sc) (disch := try exact dd) [std, e6], by simp (config := sc) (disch := try exact dd) [std, e12], by simp (config := sc) (disch := try exact dd) [std, e13], by simp (config := sc) (disch := try exact dd) [std]⟩ (by omega)
  have k6 : ¬ (i : Int) < t.length := by omega
  rw [List.take_of_length_le (by omega)] at ha
  rw [List.find?_append, fnd_out ha, Option.none_or] at hR3
  clear ha
  have r3 := hm want
  cases hpw : p want with
  | true =>
    rw [hpw] at r3
    rw [List.find?_cons_of_pos hpw, Option.some_or] at hR3
    subst hR3
    simp (config := sc) (disch := try exact dd) [std, e1, e2, e3, e4, e5, e6, e12, e13, e18, k6]
    refine oc r3 ?_
    simp (config := sc) (disch := try exact dd) [std, e1, e2, e3, e4, e5, e6, e12, e13, e18]
  | false =>
  rw [hpw] at r3
  rw [List.find?_cons_of_neg (by simp [hpw]), List.find?_nil, Option.none_or] at hR3
  simp (config := sc) (disch := try exact dd) [std, e1, e2, e3, e4, e5, e6, e12, e13, e18, k6]
  refine oc r3 ?_
  simp (config := sc) (disch := try exact dd) [std, e1, e2, e3, e4, e5, e6, e12, e13, e18, hn1, hN]
  refine lp (r15A c t m k now l p) (fun i => l.length - i) 0 ⟨by omega, by simp, ⟨by simp (config := sc) (disch := try exact dd) [std, e1], by simp (config := sc) (disch := try exact dd) [std, e2], by simp (config := sc) (disch := try exact dd) [std, e3], by simp (config := sc) (disch := try exact dd) [std, e5], by simp (config := sc) (disch := try exact dd) [std, e6], by simp (config := sc) (disch := try exact dd) [std, e12], by simp (config := sc) (disch := try exact dd) [std, e13], by simp (config := sc) (disch := try exact dd) [std]⟩, by simp (config := sc) (disch := try exact dd) [std]⟩ ?_
  clear e1 e2 e3 e4 e5 e6 e12 e13 e18 k6 r3 hpw
  rintro i S2 ⟨hi2, ha, ⟨e1, e2, e3, e5, e6, e12, e13, e19⟩, e20⟩
  by_cases hlt2 : i < l.length
  ·have k6 : (i : Int) < l.length := by omega
   obtain ⟨hx1, _⟩ := hss _ (List.getElem_mem hlt2)
   have hx2 := hrng i hlt2
   have hsm := fun y h => ff_some (f := subA) (p := p) (i := i) (y := y) hlt2 ha h
   have hst := fun h => ff_step (f := subA) (q := fun y => !p y) hlt2 ha h
   generalize hx : l[i] = x at *
   simp (config := sc) (disch := try exact dd) [std, e1, e2, e3, e5, e6, e12, e13, e19, e20, k6]
   refine lp (r15B c t m k now l p i x) (fun j => x.pools.length - j) 0 ⟨by omega, by simp, ⟨by simp (config := sc) (disch := try exact dd) [std, e1], by simp (config := sc) (disch := try exact dd) [std, e2], by simp (config := sc) (disch := try exact dd) [std, e3], by simp (config := sc) (disch := try exact dd) [std, e5], by simp (config := sc) (disch := try exact dd) [std, e6], by simp (config := sc) (disch := try exact dd) [std, e12], by simp (config := sc) (disch := try exact dd) [std, e13], by simp (config := sc) (disch := try exact dd) [std, e19]⟩, by simp (config := sc) (disch := try exact dd) [std, e20], by simp (config := sc) (disch := try exact dd) [std]⟩ ?_
   clear e1 e2 e3 e5 e6 e12 e13 e19 e20
   rintro j S3 ⟨hj, hb, ⟨e1, e2, e3, e5, e6, e12, e13, e19⟩, e20, e21⟩
   by_cases hjl : j < x.pools.length
   ·have k7 : (j : Int) < x.pools.length := by omega
    have hy2 := hx2 _ (List.getElem_mem hjl)
    have hsm2 := fun y h => ff_some (f := poolA) (p := p) (i := j) (y := y) hjl hb h
    have hst2 := fun h => ff_step (f := poolA) (q := fun y => !p y) hjl hb h
    generalize hpj : x.pools[j] = y at *
    simp (config := sc) (disch := try exact dd) [std, e1, e2, e3, e5, e6, e12, e13, e19, e20, e21, k6, k7, hx, hpj]
    refine lp (r15C c t m k now l p i j y) (fun u => (poolA y).length - u) 0 ⟨by omega, by simp, ⟨by simp (config := sc) (disch := try exact dd) [std, e1], by simp (config := sc) (disch := try exact dd) [std, e2], by simp (config := sc) (disch := try exact dd) [std, e3], by simp (config := sc) (disch := try exact dd) [std, e5], by simp (config := sc) (disch := try exact dd) [std, e6], by simp (config := sc) (disch := try exact dd) [std, e12], by simp (config := sc) (disch := try exact dd) [std, e13], by simp (config := sc) (disch := try exact dd) [std, e19]⟩, by simp (config := sc) (disch := try exact dd) [std, e20], by simp (config := sc) (disch := try exact dd) [std, e21], by simp (config := sc) (disch := try exact dd) [std]⟩ ?_
    clear e1 e2 e3 e5 e6 e12 e13 e19 e20 e21
    rintro u S4 ⟨hu, hd, ⟨e1, e2, e3, e5, e6, e12, e13, e19⟩, e20, e21, e22⟩
    have hpl := poolA_len y
    by_cases hul : u < (poolA y).length
    ·have k8 : y.first + (u : Int) ≤ y.last := by omega
     have hpa := poolA_at hul
     have hq1 := hm (y.first + (u : Int))
     have hht := fun h => fnd_hit (p := p) hul hd h
     have hst3 := allc_step (p := fun y => !p y) hul hd
     rw [hpa] at hht hst3
     cases hqq : p (y.first + (u : Int)) with
     | true =>
       rw [hqq] at hq1
       have hR2 := hsm _ (hsm2 _ (hht hqq))
       rw [hR3] at hR2
       subst hR2
       simp (config := sc) (disch := try exact dd) [std, e1, e2, e3, e5, e6, e12, e13, e19, e20, e21, e22, k6, k7, hx, hpj, k8]
       refine oc hq1 ?_
       simp (config := sc) (disch := try exact dd) [std, e1, e2, e3, e5, e6, e12, e13, e19, e20, e21, e22]
     | false =>
       rw [hqq] at hq1
       have hs3 := hst3 (by simp [hqq])
       simp (config := sc) (disch := try exact dd) [std, e1, e2, e3, e5, e6, e12, e13, e19, e20, e21, e22, k6, k7, hx, hpj, k8]
       refine oc hq1 ?_
       simp (config := sc) (disch := try exact dd) [std, e1, e2, e3, e5, e6, e12, e13, e19, e20, e21, e22]
       exact nxt_of (u + 1) ⟨by omega, hs3, ⟨by simp (config := sc) (disch := try exact dd) [std, e1], by simp (config := sc) (disch := try exact dd) [std, e2], by simp (config := sc) (disch := try exact dd) [std, e3], by simp (config := sc) (disch := try exact dd) [std, e5], by simp (config := sc) (disch := try exact dd) [std, e6], by simp (config := sc) (disch := try exact dd) [std, e12], by simp (config := sc) (disch := try exact dd) [std, e13], by simp (config := sc) (disch := try exact dd) [std, e19]⟩, by simp (config := sc) (disch := try exact dd) [std, e20], by simp (config := sc) (disch := try exact dd) [std, e21], by simp (config := sc) (disch := try exact dd) [std]; omega⟩ (by omega)
    ·have k8 : ¬ y.first + (u : Int) ≤ y.last := by omega
     have hs2 := hst2 (allc_end hul hd)
     simp (config := sc) (disch := try exact dd) [std, e1, e2, e3, e5, e6, e12, e13, e19, e20, e21, e22, k6, k7, hx, hpj, k8]
     exact nxt_of (j + 1) ⟨by omega, hs2, ⟨by simp (config := sc) (disch := try exact dd) [std, e1], by simp (config := sc) (disch := try exact dd) [std, e2], by simp (config := sc) (disch := try exact dd) [std, e3], by simp (config := sc) (disch := try exact dd) [std, e5], by simp (config := sc) (disch := try exact dd) [std, e6], by simp (config := sc) (disch := try exact dd) [std, e12], by simp (config := sc) (disch := try exact dd) [std, e13], by simp (config := sc) (disch := try exact dd) [std, e19]⟩, by simp (config := sc) (disch := try exact dd) [std, e20], by simp (config := sc) (disch := try exact dd) [std]⟩ (by omega)
   ·have k7 : ¬ (j : Int) < x.pools.length := by omega
    have hs1 := hst (allc_end (l := x.pools.flatMap poolA) (i := (x.pools.flatMap poolA).length) (by omega) (by rw [List.take_of_length_le (Nat.le_refl _)]; rwa [List.take_of_length_le (by omega)] at hb))
    simp (config := sc) (disch := try exact dd) [std, e1, e2, e3, e5, e6, e12, e13, e19, e20, e21, k6, k7, hx]
    exact nxt_of (i + 1) ⟨by omega, hs1, ⟨by simp (config := sc) (disch := try exact dd) [std, e1], by simp (config := sc) (disch := try exact dd) [std, e2], by simp (config := sc) (disch := try exact dd) [std, e3], by simp (config := sc) (disch := try exact dd) [std, e5], by simp (config := sc) (disch := try exact dd) [std, e6], by simp (config := sc) (disch := try exact dd) [std, e12], by simp (config := sc) (disch := try exact dd) [std, e13], by simp (config := sc) (disch := try exact dd) [std, e19]⟩, by simp (config := sc) (disch := try exact dd) [std]⟩ (by omega)
  ·have k6 : ¬ (i : Int) < l.length := by omega
   rw [List.take_of_length_le (by omega)] at ha
   have hR2 := fnd_out (p := p) ha
   rw [hR3] at hR2
   subst hR2
   simp (config := sc) (disch := try exact dd) [std, e1, e2, e3, e5, e6, e12, e13, e19, e20, k6]
end Go.Proofs.YtnkmlhlegndlhaaGreat
