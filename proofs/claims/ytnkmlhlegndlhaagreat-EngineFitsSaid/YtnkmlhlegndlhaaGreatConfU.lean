/- What is reserved, and what lies in pools: what conf and the document's layer 13 answer. -/
import Derived.Test.YtnkmlhlegndlhaaGreatConfT
namespace Go.Proofs.YtnkmlhlegndlhaaGreat
open BoEng Go
set_option maxRecDepth 100000
attribute [-simp] List.map_take List.map_drop List.length_flatMap
set_option linter.unusedSimpArgs false
set_option linter.unusedVariables false
theorem ff_hit {α β : Type} {xs : List α} {f : α → List β} {p : β → Bool} {i j : Nat} (hi : i < xs.length) (hj : j < (f xs[i]).length) (ho : ((xs.take i).flatMap f).all (fun y => !p y) = true) (hb : ((f xs[i]).take j).all (fun y => !p y) = true) (hp : p (f xs[i])[j] = true) :
  (xs.flatMap f).find? p = some (f xs[i])[j] := by
 have e : xs.flatMap f = (xs.take i).flatMap f ++ ((f xs[i]).take j ++ (f xs[i])[j] :: ((f xs[i]).drop (j + 1) ++ (xs.drop (i + 1)).flatMap f)) := by
  conv => lhs; rw [← List.take_append_drop i xs, List.drop_eq_getElem_cons hi, List.flatMap_append, List.flatMap_cons]
  congr 1
  have e2 : f xs[i] = (f xs[i]).take j ++ (f xs[i])[j] :: (f xs[i]).drop (j + 1) := by rw [← List.drop_eq_getElem_cons hj, List.take_append_drop]
  rw [← List.cons_append, ← List.append_assoc, ← e2]
 have none_of : ∀ l : List β, l.all (fun y => !p y) = true → l.find? p = none := fun l h => by
  rw [List.find?_eq_none]
  intro x hx
  have := List.all_eq_true.1 h x hx
  simpa using this
 rw [e, List.find?_append, none_of _ ho, Option.none_or, List.find?_append, none_of _ hb, Option.none_or, List.find?_cons_of_pos hp]
theorem ff_out {α β : Type} {xs : List α} {f : α → List β} {p : β → Bool} (ho : (xs.flatMap f).all (fun y => !p y) = true) : (xs.flatMap f).find? p = none := by
 rw [List.find?_eq_none]
 intro x hx
 have := List.all_eq_true.1 ho x hx
 simpa using this
theorem ff_step {α β : Type} {xs : List α} {f : α → List β} {q : β → Bool} {i : Nat} (hi : i < xs.length) (ho : ((xs.take i).flatMap f).all q = true) (hb : (f xs[i]).all q = true) : ((xs.take (i + 1)).flatMap f).all q = true := by
 rw [List.take_succ_eq_append_getElem hi, List.flatMap_append, List.all_append, ho]
 simp only [List.flatMap_cons, List.flatMap_nil, List.append_nil, Bool.true_and]
 exact hb
theorem ff_any {α β : Type} {xs : List α} {f : α → List β} {p : β → Bool} {i j : Nat} (hi : i < xs.length) (hj : j < (f xs[i]).length) (hp : p (f xs[i])[j] = true) : (xs.flatMap f).any p = true := by
 rw [List.any_eq_true]
 exact ⟨(f xs[i])[j], List.mem_flatMap.2 ⟨xs[i], List.getElem_mem hi, List.getElem_mem hj⟩, hp⟩
theorem ff_none {α β : Type} {xs : List α} {f : α → List β} {p : β → Bool} (ho : (xs.flatMap f).all (fun y => !p y) = true) : (xs.flatMap f).any p = false := by
 rw [Bool.eq_false_iff]
 intro h
 obtain ⟨x, hx, hp⟩ := List.any_eq_true.1 h
 have := List.all_eq_true.1 ho x hx
 simp [hp] at this
theorem flat_if {α β : Type} (p : α → Bool) (g : α → List β) : ∀ xs : List α, xs.flatMap (fun x => if p x = true then g x else []) = (xs.filter p).flatMap g
 | [] => rfl
 | x :: xs => by
   rw [List.flatMap_cons, flat_if p g xs, List.filter_cons]
   by_cases h : p x = true
   ·rw [if_pos h, if_pos h, List.flatMap_cons]
   ·rw [if_neg h, if_neg h, List.nil_append]
def netP (n : Int) (x : Spot) : Bool := decide ((x.net : Int) = n)
theorem subsF_net (k : Nat) : ∀ (i : Nat) (l : List Sub) (x : Spot), x ∈ subsF k i l → x.net = k
 | _, [], _, h => by simp [subsF] at h
 | i, s :: l, x, h => by
   simp only [subsF, List.mem_cons] at h
   rcases h with rfl | h
   ·rfl
   ·exact subsF_net k (i + 1) l x h
theorem spotsF_ge : ∀ (k : Nat) (l : List Net) (x : Spot), x ∈ spotsF k l → k ≤ x.net ∧ x.net < k + l.length
 | _, [], _, h => by simp [spotsF] at h
 | k, n :: l, x, h => by
   simp only [spotsF, List.mem_append] at h
   simp only [List.length_cons]
   rcases h with h | h
   ·have := subsF_net k 0 n.subs x h; omega
   ·have := spotsF_ge (k + 1) l x h; omega
theorem spotsF_one : ∀ (k : Nat) (l : List Net) (n : Nat) (h : n < l.length), (spotsF k l).filter (netP ((k + n : Nat) : Int)) = subsF (k + n) 0 l[n].subs
 | k, m :: l, n, h => by
   rw [spotsF, List.filter_append]
   cases n with
   | zero =>
     have h1 : (subsF k 0 m.subs).filter (netP ((k + 0 : Nat) : Int)) = subsF k 0 m.subs := by
      rw [List.filter_eq_self]
      intro x hx
      have := subsF_net k 0 m.subs x hx
      simp [netP, this]
     have h2 : (spotsF (k + 1) l).filter (netP ((k + 0 : Nat) : Int)) = [] := by
      rw [List.filter_eq_nil_iff]
      intro x hx
      have := spotsF_ge (k + 1) l x hx
      simp only [netP, decide_eq_true_eq]
      omega
     rw [h1, h2, List.append_nil]
     rfl
   | succ n =>
     have h1 : (subsF k 0 m.subs).filter (netP ((k + (n + 1) : Nat) : Int)) = [] := by
      rw [List.filter_eq_nil_iff]
      intro x hx
      have := subsF_net k 0 m.subs x hx
      simp only [netP, decide_eq_true_eq]
      omega
     have h2 := spotsF_one (k + 1) l n (by simpa using h)
     rw [show k + 1 + n = k + (n + 1) by omega] at h2
     rw [h1, h2, List.nil_append]
     rfl
theorem spotsF_out (l : List Net) (n : Int) (h : ¬ (0 ≤ n ∧ n < l.length)) : (spotsF 0 l).filter (netP n) = [] := by
 rw [List.filter_eq_nil_iff]
 intro x hx
 have := spotsF_ge 0 l x hx
 simp only [netP, decide_eq_true_eq]
 omega
theorem subsF_flat {β : Type} (f : Sub → List β) (k : Nat) : ∀ (i : Nat) (l : List Sub), (subsF k i l).flatMap (fun x => f x.s) = l.flatMap f
 | _, [] => rfl
 | i, s :: l => by simp [subsF, subsF_flat f k (i + 1) l]
def resN (n : Int) (x : Spot) : List Res := if netP n x = true then x.s.res else []
def poolN (n : Int) (x : Spot) : List Rng := if netP n x = true then x.s.pools else []
def resX (x : Spot) : List Res := x.s.res
def keyP (k : List UInt8) (r : Res) : Bool := decide (r.key = k)
def addrP (a : Int) (r : Res) : Bool := decide (r.addr = a)
def keptS (c : Cfg) (n : Int) (k : List UInt8) : Option Int := (((rightC c).flatMap (resN n)).find? (keyP k)).map Res.addr
def keeperS (c : Cfg) (a : Int) : Option (List UInt8) := (((rightC c).flatMap resX).find? (addrP a)).map Res.key
def inPoolS (c : Cfg) (n a : Int) : Bool := ((rightC c).flatMap (poolN n)).any fun p => inR p a
theorem net_res {c : Cfg} {n : Nat} (h : n < c.nets.length) : (spotsS c).flatMap (resN n) = c.nets[n].subs.flatMap Sub.res := by
 have e : (spotsS c).flatMap (resN n) = ((spotsS c).filter (netP n)).flatMap (fun x => x.s.res) := flat_if (netP n) (fun x => x.s.res) _
 have h2 := spotsF_one 0 c.nets n h
 simp only [Nat.zero_add] at h2
 rw [e]
 unfold spotsS
 rw [h2, subsF_flat Sub.res]
theorem net_pool {c : Cfg} {n : Nat} (h : n < c.nets.length) : (spotsS c).flatMap (poolN n) = c.nets[n].subs.flatMap Sub.pools := by
 have e : (spotsS c).flatMap (poolN n) = ((spotsS c).filter (netP n)).flatMap (fun x => x.s.pools) := flat_if (netP n) (fun x => x.s.pools) _
 have h2 := spotsF_one 0 c.nets n h
 simp only [Nat.zero_add] at h2
 rw [e]
 unfold spotsS
 rw [h2, subsF_flat Sub.pools]
theorem net_out {c : Cfg} {n : Int} (h : ¬ (0 ≤ n ∧ n < c.nets.length)) : (spotsS c).flatMap (resN n) = [] ∧ (spotsS c).flatMap (poolN n) = [] := by
 have h2 := spotsF_out c.nets n h
 have e : (spotsS c).flatMap (resN n) = ((spotsS c).filter (netP n)).flatMap (fun x => x.s.res) := flat_if (netP n) (fun x => x.s.res) _
 have e2 : (spotsS c).flatMap (poolN n) = ((spotsS c).filter (netP n)).flatMap (fun x => x.s.pools) := flat_if (netP n) (fun x => x.s.pools) _
 rw [e, e2]
 unfold spotsS
 rw [h2]
 exact ⟨rfl, rfl⟩
theorem right_len2 {c : Cfg} (hc : sizedC c) : (rightC c).length ≤ 1000000 := by
 unfold rightC
 split
 ·exact spots_len hc
 ·simp
theorem right_sized {c : Cfg} (hc : sizedC c) {i : Nat} (hi : i < (rightC c).length) : sizedS (rightC c)[i].s := by
 have hm := List.getElem_mem hi
 generalize (rightC c)[i] = x at *
 unfold rightC at hm
 split at hm
 ·obtain ⟨j, hj, rfl⟩ := List.mem_iff_getElem.1 hm
  exact spots_sized hc hj
 ·simp at hm
def kfI (c : Cfg) (n : Int) (k : List UInt8) (i : Nat) (S : PS) : Prop :=
 i ≤ (rightC c).length ∧ (((rightC c).take i).flatMap (resN n)).all (fun r => !keyP k r) = true ∧ S.t 1 = .d (.int .i64 n) ∧ S.t 2 = .d (.str k) ∧ S.t 13 = .d (.slice ((rightC c).map Spot.d)) ∧ S.t 14 = .d (.int .i64 (rightC c).length) ∧ S.t 15 = .d (.int .i64 i)
def kfJ (c : Cfg) (n : Int) (k : List UInt8) (x : Spot) (i fo g : Nat) (j : Nat) (S : PS) : Prop :=
 j ≤ x.s.res.length ∧ (netP n x = true → (x.s.res.take j).all (fun r => !keyP k r) = true) ∧ S.t 1 = .d (.int .i64 n) ∧ S.t 2 = .d (.str k) ∧ S.t 13 = .d (.slice ((rightC c).map Spot.d)) ∧ S.t 14 = .d (.int .i64 (rightC c).length) ∧ S.t 15 = .d (.int .i64 i) ∧
   S.t 9 = .ptr (fo + 9) g 0 ∧ S.fo = fo ∧ S.gen (fo + 9) = g ∧ S.box (fo + 9) = (cells x.d).map .d ∧ S.t 21 = .d (.slice (x.s.res.map Res.d)) ∧ S.t 22 = .d (.int .i64 x.s.res.length) ∧ S.t 23 = .d (.int .i64 j)
theorem confKeptFor (c : Cfg) (n : Int) (k : List UInt8) (hc : sizedC c) : Holds Tryz.prog 77 [.d c.d, .d (.int .i64 n), .d (.str k)] (.tup [.d (.int .i64 ((keptS c n k).getD 0)), .d (.bool (keptS c n k).isSome)]) (fun _ => false) := by
 refine Holds.by (by kernel_rfl) Tryz.func77 (by kernel_rfl) rfl [20003] (by simp) (by kernel_rfl) (by kernel_rfl) rfl ?_
 conv in ccs _ => cbv
 have hsl := right_len2 hc
 simp (config := sc) (disch := try exact dd) [std]
 refine oc (confRight c hc) ?_
 simp (config := sc) (disch := try exact dd) [std]
 refine lp (kfI c n k) (fun i => (rightC c).length - i) 0 ⟨by omega, by simp, by simp (config := sc) (disch := try exact dd) [std]⟩ ?_
 rintro i S ⟨hi, ha, e1, e2, e13, e14, e15⟩
 by_cases hlt : i < (rightC c).length
 ·have k6 : (i : Int) < (rightC c).length := by omega
  have hsz := (right_sized hc hlt).2.1
  have hstep := fun h => ff_step (f := resN n) (q := fun r => !keyP k r) hlt ha h
  have hhit := fun j hj hb hp => ff_hit (f := resN n) (p := keyP k) (i := i) (j := j) hlt hj ha hb hp
  generalize hx : (rightC c)[i] = x at *
  simp (config := sc) (disch := try exact dd) [std, e1, e2, e13, e14, e15, k6, hx]
  refine lp (kfJ c n k x i S.fo (S.gen (S.fo + 9) + 1)) (fun j => x.s.res.length - j) 0 ⟨by omega, by simp, by simp (config := sc) (disch := try exact dd) [std, e1, e2, e13, e14, e15]⟩ ?_
  clear e1 e2 e13 e14 e15
  rintro j S1 ⟨hj, hb, e1, e2, e13, e14, e15, e9, efo, eg, eb, e21, e22, e23⟩
  simp only [Spot.d_eq, cells_agg, List.map_cons, List.map_nil] at eb
  by_cases hjl : j < x.s.res.length
  ·have k7 : (j : Int) < x.s.res.length := by omega
   by_cases hnet : (x.net : Int) = n
   ·have hnp : netP n x = true := decide_eq_true hnet
    have hrn : resN n x = x.s.res := if_pos hnp
    have hb1 := hb hnp
    simp only [hrn] at hhit
    by_cases hk : x.s.res[j].key = k
    ·have hz : keptS c n k = some x.s.res[j].addr := by
      unfold keptS
      rw [hhit j hjl hb1 (decide_eq_true hk)]
      rfl
     rw [hz]
     simp (config := sc) (disch := try exact dd) [std, e1, e2, e13, e14, e15, e9, efo, eg, eb, e21, e22, e23, k7, hnet, hk]
    ·have hb2 := allc_step (p := fun r => !keyP k r) hjl hb1 (by simp [keyP, hk])
     simp (config := sc) (disch := try exact dd) [std, e1, e2, e13, e14, e15, e9, efo, eg, eb, e21, e22, e23, k7, hnet, hk]
     exact nxt_of (j + 1) ⟨by omega, fun _ => hb2, by simp (config := sc) (disch := try exact dd) [std, e1, e2, e13, e14, e15, e9, efo, eg, eb, e21, e22, e23]⟩ (by omega)
   ·have hnp : ¬ netP n x = true := by simp [netP, hnet]
    simp (config := sc) (disch := try exact dd) [std, e1, e2, e13, e14, e15, e9, efo, eg, eb, e21, e22, e23, k7, hnet]
    exact nxt_of (j + 1) ⟨by omega, fun h => absurd h hnp, by simp (config := sc) (disch := try exact dd) [std, e1, e2, e13, e14, e15, e9, efo, eg, eb, e21, e22, e23]⟩ (by omega)
  ·have k7 : ¬ (j : Int) < x.s.res.length := by omega
   have hst : (((rightC c).take (i + 1)).flatMap (resN n)).all (fun r => !keyP k r) = true := by
    refine hstep ?_
    unfold resN
    split
    ·rename_i h; exact allc_end hjl (hb h)
    ·rfl
   simp (config := sc) (disch := try exact dd) [std, e1, e2, e13, e14, e15, e9, efo, eg, eb, e21, e22, e23, k7]
   exact nxt_of (i + 1) ⟨by omega, hst, by simp (config := sc) (disch := try exact dd) [std, e1, e2, e13, e14, e15, e9, efo, eg, eb, e21, e22, e23]⟩ (by omega)
 ·have k6 : ¬ (i : Int) < (rightC c).length := by omega
  rw [List.take_of_length_le (by omega)] at ha
  have hz : keptS c n k = none := by
   unfold keptS
   rw [ff_out (p := keyP k) ha]
   rfl
  rw [hz]
  simp (config := sc) (disch := try exact dd) [std, e1, e2, e13, e14, e15, k6]
def kpI (c : Cfg) (a : Int) (i : Nat) (S : PS) : Prop :=
 i ≤ (rightC c).length ∧ (((rightC c).take i).flatMap resX).all (fun r => !addrP a r) = true ∧ S.t 1 = .d (.int .i64 a) ∧ S.t 11 = .d (.slice ((rightC c).map Spot.d)) ∧ S.t 12 = .d (.int .i64 (rightC c).length) ∧ S.t 13 = .d (.int .i64 i)
def kpJ (c : Cfg) (a : Int) (x : Spot) (i fo g : Nat) (j : Nat) (S : PS) : Prop :=
 j ≤ x.s.res.length ∧ (x.s.res.take j).all (fun r => !addrP a r) = true ∧ S.t 1 = .d (.int .i64 a) ∧ S.t 11 = .d (.slice ((rightC c).map Spot.d)) ∧ S.t 12 = .d (.int .i64 (rightC c).length) ∧ S.t 13 = .d (.int .i64 i) ∧
   S.t 7 = .ptr (fo + 7) g 0 ∧ S.fo = fo ∧ S.gen (fo + 7) = g ∧ S.box (fo + 7) = (cells x.d).map .d ∧ S.t 19 = .d (.slice (x.s.res.map Res.d)) ∧ S.t 20 = .d (.int .i64 x.s.res.length) ∧ S.t 21 = .d (.int .i64 j)
theorem confKeeper (c : Cfg) (a : Int) (hc : sizedC c) : Holds Tryz.prog 78 [.d c.d, .d (.int .i64 a)] (.tup [.d (.str ((keeperS c a).getD [])), .d (.bool (keeperS c a).isSome)]) (fun _ => false) := by
 refine Holds.by (by kernel_rfl) Tryz.func78 (by kernel_rfl) rfl [20002] (by simp) (by kernel_rfl) (by kernel_rfl) rfl ?_
 conv in ccs _ => cbv
 have hsl := right_len2 hc
 simp (config := sc) (disch := try exact dd) [std]
 refine oc (confRight c hc) ?_
 simp (config := sc) (disch := try exact dd) [std]
 refine lp (kpI c a) (fun i => (rightC c).length - i) 0 ⟨by omega, by simp, by simp (config := sc) (disch := try exact dd) [std]⟩ ?_
 rintro i S ⟨hi, ha, e1, e11, e12, e13⟩
 by_cases hlt : i < (rightC c).length
 ·have k6 : (i : Int) < (rightC c).length := by omega
  have hsz := (right_sized hc hlt).2.1
  have hstep := fun h => ff_step (f := resX) (q := fun r => !addrP a r) hlt ha h
  have hhit := fun j hj hb hp => ff_hit (f := resX) (p := addrP a) (i := i) (j := j) hlt hj ha hb hp
  generalize hx : (rightC c)[i] = x at *
  simp (config := sc) (disch := try exact dd) [std, e1, e11, e12, e13, k6, hx]
  refine lp (kpJ c a x i S.fo (S.gen (S.fo + 7) + 1)) (fun j => x.s.res.length - j) 0 ⟨by omega, by simp, by simp (config := sc) (disch := try exact dd) [std, e1, e11, e12, e13]⟩ ?_
  clear e1 e11 e12 e13
  rintro j S1 ⟨hj, hb, e1, e11, e12, e13, e7, efo, eg, eb, e19, e20, e21⟩
  simp only [Spot.d_eq, cells_agg, List.map_cons, List.map_nil] at eb
  by_cases hjl : j < x.s.res.length
  ·have k7 : (j : Int) < x.s.res.length := by omega
   by_cases hk : x.s.res[j].addr = a
   ·have hz : keeperS c a = some x.s.res[j].key := by
     unfold keeperS
     rw [hhit j hjl hb (decide_eq_true hk)]
     rfl
    rw [hz]
    simp (config := sc) (disch := try exact dd) [std, e1, e11, e12, e13, e7, efo, eg, eb, e19, e20, e21, k7, hk]
   ·have hb2 := allc_step (p := fun r => !addrP a r) hjl hb (by simp [addrP, hk])
    simp (config := sc) (disch := try exact dd) [std, e1, e11, e12, e13, e7, efo, eg, eb, e19, e20, e21, k7, hk]
    exact nxt_of (j + 1) ⟨by omega, hb2, by simp (config := sc) (disch := try exact dd) [std, e1, e11, e12, e13, e7, efo, eg, eb, e19, e20, e21]⟩ (by omega)
  ·have k7 : ¬ (j : Int) < x.s.res.length := by omega
   have hst := hstep (allc_end hjl hb)
   simp (config := sc) (disch := try exact dd) [std, e1, e11, e12, e13, e7, efo, eg, eb, e19, e20, e21, k7]
   exact nxt_of (i + 1) ⟨by omega, hst, by simp (config := sc) (disch := try exact dd) [std, e1, e11, e12, e13, e7, efo, eg, eb, e19, e20, e21]⟩ (by omega)
 ·have k6 : ¬ (i : Int) < (rightC c).length := by omega
  rw [List.take_of_length_le (by omega)] at ha
  have hz : keeperS c a = none := by
   unfold keeperS
   rw [ff_out (p := addrP a) ha]
   rfl
  rw [hz]
  simp (config := sc) (disch := try exact dd) [std, e1, e11, e12, e13, k6]
def ipI (c : Cfg) (n a : Int) (i : Nat) (S : PS) : Prop :=
 i ≤ (rightC c).length ∧ (((rightC c).take i).flatMap (poolN n)).all (fun p => !inR p a) = true ∧ S.t 1 = .d (.int .i64 n) ∧ S.t 2 = .d (.int .i64 a) ∧ S.t 12 = .d (.slice ((rightC c).map Spot.d)) ∧ S.t 13 = .d (.int .i64 (rightC c).length) ∧ S.t 14 = .d (.int .i64 i)
def ipJ (c : Cfg) (n a : Int) (x : Spot) (i fo g : Nat) (j : Nat) (S : PS) : Prop :=
 j ≤ x.s.pools.length ∧ (netP n x = true → (x.s.pools.take j).all (fun p => !inR p a) = true) ∧ S.t 1 = .d (.int .i64 n) ∧ S.t 2 = .d (.int .i64 a) ∧ S.t 12 = .d (.slice ((rightC c).map Spot.d)) ∧ S.t 13 = .d (.int .i64 (rightC c).length) ∧ S.t 14 = .d (.int .i64 i) ∧
   S.t 8 = .ptr (fo + 8) g 0 ∧ S.fo = fo ∧ S.gen (fo + 8) = g ∧ S.box (fo + 8) = (cells x.d).map .d ∧ S.t 20 = .d (.slice (x.s.pools.map Rng.d)) ∧ S.t 21 = .d (.int .i64 x.s.pools.length) ∧ S.t 22 = .d (.int .i64 j)
theorem confInPool (c : Cfg) (n a : Int) (hc : sizedC c) : Holds Tryz.prog 79 [.d c.d, .d (.int .i64 n), .d (.int .i64 a)] (.d (.bool (inPoolS c n a))) (fun _ => false) := by
 refine Holds.by (by kernel_rfl) Tryz.func79 (by kernel_rfl) rfl [20003] (by simp) (by kernel_rfl) (by kernel_rfl) rfl ?_
 conv in ccs _ => cbv
 have hsl := right_len2 hc
 simp (config := sc) (disch := try exact dd) [std]
 refine oc (confRight c hc) ?_
 simp (config := sc) (disch := try exact dd) [std]
 refine lp (ipI c n a) (fun i => (rightC c).length - i) 0 ⟨by omega, by simp, by simp (config := sc) (disch := try exact dd) [std]⟩ ?_
 rintro i S ⟨hi, ha, e1, e2, e12, e13, e14⟩
 by_cases hlt : i < (rightC c).length
 ·have k6 : (i : Int) < (rightC c).length := by omega
  have hsz := (right_sized hc hlt).1
  have hstep := fun h => ff_step (f := poolN n) (q := fun p => !inR p a) hlt ha h
  have hhit := fun j hj hp => ff_any (f := poolN n) (p := fun p => inR p a) (i := i) (j := j) hlt hj hp
  generalize hx : (rightC c)[i] = x at *
  simp (config := sc) (disch := try exact dd) [std, e1, e2, e12, e13, e14, k6, hx]
  refine lp (ipJ c n a x i S.fo (S.gen (S.fo + 8) + 1)) (fun j => x.s.pools.length - j) 0 ⟨by omega, by simp, by simp (config := sc) (disch := try exact dd) [std, e1, e2, e12, e13, e14]⟩ ?_
  clear e1 e2 e12 e13 e14
  rintro j S1 ⟨hj, hb, e1, e2, e12, e13, e14, e8, efo, eg, eb, e20, e21, e22⟩
  simp only [Spot.d_eq, cells_agg, List.map_cons, List.map_nil] at eb
  by_cases hjl : j < x.s.pools.length
  ·have k7 : (j : Int) < x.s.pools.length := by omega
   by_cases hnet : (x.net : Int) = n
   ·have hnp : netP n x = true := decide_eq_true hnet
    have hrn : poolN n x = x.s.pools := if_pos hnp
    have hb1 := hb hnp
    simp only [hrn] at hhit
    have q := confHas x.s.pools[j] a
    cases hk : inR x.s.pools[j] a with
    | true =>
      have hz : inPoolS c n a = true := hhit j hjl hk
      rw [hk] at q
      rw [hz]
      simp (config := sc) (disch := try exact dd) [std, e1, e2, e12, e13, e14, e8, efo, eg, eb, e20, e21, e22, k7, hnet]
      refine oc q ?_
      simp (config := sc) (disch := try exact dd) [std, e1, e2, e12, e13, e14, e8, efo, eg, eb, e20, e21, e22, k7, hnet]
    | false =>
      rw [hk] at q
      have hb2 := allc_step (p := fun p => !inR p a) hjl hb1 (by simp [hk])
      simp (config := sc) (disch := try exact dd) [std, e1, e2, e12, e13, e14, e8, efo, eg, eb, e20, e21, e22, k7, hnet]
      refine oc q ?_
      simp (config := sc) (disch := try exact dd) [std, e1, e2, e12, e13, e14, e8, efo, eg, eb, e20, e21, e22, k7, hnet]
      exact nxt_of (j + 1) ⟨by omega, fun _ => hb2, by simp (config := sc) (disch := try exact dd) [std, e1, e2, e12, e13, e14, e8, efo, eg, eb, e20, e21, e22]⟩ (by omega)
   ·have hnp : ¬ netP n x = true := by simp [netP, hnet]
    simp (config := sc) (disch := try exact dd) [std, e1, e2, e12, e13, e14, e8, efo, eg, eb, e20, e21, e22, k7, hnet]
    exact nxt_of (j + 1) ⟨by omega, fun h => absurd h hnp, by simp (config := sc) (disch := try exact dd) [std, e1, e2, e12, e13, e14, e8, efo, eg, eb, e20, e21, e22]⟩ (by omega)
  ·have k7 : ¬ (j : Int) < x.s.pools.length := by omega
   have hst : (((rightC c).take (i + 1)).flatMap (poolN n)).all (fun p => !inR p a) = true := by
    refine hstep ?_
    unfold poolN
    split
    ·rename_i h; exact allc_end hjl (hb h)
    ·rfl
   simp (config := sc) (disch := try exact dd) [std, e1, e2, e12, e13, e14, e8, efo, eg, eb, e20, e21, e22, k7]
   exact nxt_of (i + 1) ⟨by omega, hst, by simp (config := sc) (disch := try exact dd) [std, e1, e2, e12, e13, e14, e8, efo, eg, eb, e20, e21, e22]⟩ (by omega)
 ·have k6 : ¬ (i : Int) < (rightC c).length := by omega
  rw [List.take_of_length_le (by omega)] at ha
  have hz : inPoolS c n a = false := ff_none (p := fun p => inR p a) ha
  rw [hz]
  simp (config := sc) (disch := try exact dd) [std, e1, e2, e12, e13, e14, k6]
end Go.Proofs.YtnkmlhlegndlhaaGreat
