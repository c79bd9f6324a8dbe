/- Configurations: what the program's conf answers, second part. -/
import Derived.Test.YtnkmlhlegndlhaaGreatConfP
namespace Go.Proofs.YtnkmlhlegndlhaaGreat
open BoEng Go
set_option maxRecDepth 100000
attribute [-simp] List.map_take List.map_drop List.length_flatMap
set_option linter.unusedSimpArgs false
set_option linter.unusedVariables false
theorem subsF_at : ∀ (k i : Nat) (l : List Sub) (x : Spot), x ∈ subsF k i l → x.net = k ∧ i ≤ x.sub ∧ x.sub < i + l.length
 | _, _, [], _, h => by simp [subsF] at h
 | k, i, s :: l, x, h => by
   simp only [subsF, List.mem_cons] at h
   rcases h with rfl | h
   ·simp
   ·have := subsF_at k (i + 1) l x h
    simp only [List.length_cons]
    omega
theorem spotsF_net : ∀ (k : Nat) (l : List Net) (x : Spot), x ∈ spotsF k l → k ≤ x.net ∧ x.net < k + l.length
 | _, [], _, h => by simp [spotsF] at h
 | k, n :: l, x, h => by
   simp only [spotsF, List.mem_append, List.length_cons] at h ⊢
   rcases h with h | h
   ·have := subsF_at _ _ _ _ h
    omega
   ·have := spotsF_net (k + 1) l x h
    omega
theorem spots_net {c : Cfg} (hc : sizedC c) {i : Nat} (hi : i < (spotsS c).length) : (spotsS c)[i].net ≤ 100000 := by
 have := spotsF_net _ _ _ (List.getElem_mem hi)
 have := hc.1
 unfold spotsS at *
 omega
def ulI (c : Cfg) (i : Nat) (S : PS) : Prop :=
 i ≤ (spotsS c).length ∧ ((spotsS c).zipIdx.take i).all (likeRow (spotsS c)) = true ∧ S.t 3 = .d (.slice ((spotsS c).map Spot.d)) ∧ S.t 10 = .d (.slice ((spotsS c).map Spot.d)) ∧ S.t 11 = .d (.int .i64 (spotsS c).length) ∧ S.t 12 = .d (.int .i64 i)
def ulJ (c : Cfg) (i : Nat) (x : Spot) (fo g : Nat) (k : Nat) (S : PS) : Prop :=
 k ≤ (spotsS c).length ∧ ((spotsS c).zipIdx.take k).all (likePair (x, i)) = true ∧ S.t 3 = .d (.slice ((spotsS c).map Spot.d)) ∧ S.t 10 = .d (.slice ((spotsS c).map Spot.d)) ∧ S.t 11 = .d (.int .i64 (spotsS c).length) ∧ S.t 12 = .d (.int .i64 i) ∧
   S.t 4 = .d (.int .i64 i) ∧ S.t 5 = .ptr (fo + 5) g 0 ∧ S.fo = fo ∧ S.gen (fo + 5) = g ∧ S.box (fo + 5) = (cells x.d).map .d ∧ S.t 17 = .d (.slice ((spotsS c).map Spot.d)) ∧ S.t 18 = .d (.int .i64 (spotsS c).length) ∧ S.t 19 = .d (.int .i64 k)
theorem confUnlike (c : Cfg) (hc : sizedC c) : Holds Tryz.prog 89 [.d c.d] (.d (.bool (unlikeS c))) (fun _ => false) := by
 refine Holds.by (by kernel_rfl) Tryz.func89 (by kernel_rfl) rfl [] (by simp) (by kernel_rfl) (by kernel_rfl) rfl ?_
 conv in ccs _ => cbv
 have hsl := spots_len hc
 simp (config := sc) (disch := try exact dd) [std]
 refine oc (confSpots c hc) ?_
 simp (config := sc) (disch := try exact dd) [std]
 refine lp (ulI c) (fun i => (spotsS c).length - i) 0 ⟨by omega, by simp, by simp (config := sc) (disch := try exact dd) [std]⟩ ?_
 rintro i S ⟨hi, ha, e3, e10, e11, e12⟩
 by_cases hlt : i < (spotsS c).length
 ·have k6 : (i : Int) < (spotsS c).length := by omega
  have hsz := spots_sized hc hlt
  have hnt := spots_net hc hlt
  have hpx : (likeRow (spotsS c) ((spotsS c)[i], i)) = false → unlikeS c = false := fun h => zall_bad (p := likeRow (spotsS c)) hlt h
  have hpy := zall_step (p := likeRow (spotsS c)) hlt ha
  simp (config := sc) (disch := try exact dd) [std, e3, e10, e11, e12, k6]
  refine lp (ulJ c i (spotsS c)[i] S.fo (S.gen (S.fo + 5) + 1)) (fun k => (spotsS c).length - k) 0 ⟨by omega, by simp, by simp (config := sc) (disch := try exact dd) [std, e3, e10, e11, e12]⟩ ?_
  rintro k S1 ⟨hki, hka, e3, e10, e11, e12, e4, e5, efo, eg, eb, e17, e18, e19⟩
  simp only [Spot.d_eq, cells_agg, List.map_cons, List.map_nil] at eb
  by_cases hlt2 : k < (spotsS c).length
  ·have k7 : (k : Int) < (spotsS c).length := by omega
   have hsz2 := spots_sized hc hlt2
   have hnt2 := spots_net hc hlt2
   have hq := confOnce (spotsS c)[i] (spotsS c)[k] (decide (i = k)) hsz hsz2 hnt hnt2
   have hik : decide (i = k) = decide ((i : Int) = k) := by rw [Bool.eq_iff_iff]; simp; omega
   have hpair : likePair ((spotsS c)[i], i) ((spotsS c)[k], k) = onceS (spotsS c)[i] (spotsS c)[k] (decide (i = k)) := rfl
   have hbx := fun (hq : likePair ((spotsS c)[i], i) ((spotsS c)[k], k) = false) => hpx (zall_bad (p := likePair ((spotsS c)[i], i)) hlt2 hq)
   have hby := zall_step (p := likePair ((spotsS c)[i], i)) hlt2 hka
   rw [hpair] at hbx hby
   have hlast : ∀ b, onceS (spotsS c)[i] (spotsS c)[k] (decide (i = k)) = b → Holds Tryz.prog 135 [.d (spotsS c)[i].d, .d (spotsS c)[k].d, .d (.bool (decide ((i : Int) = k)))] (.d (.bool b)) (fun _ => false) := by
    intro b hb
    rw [← hik, ← hb]
    exact hq
   simp only [Spot.d_eq] at hlast
   by_cases hik2 : (i : Int) = k
   ·rw [decide_eq_true hik2] at hlast
    have hikn : i = k := by omega
    cases hb : onceS (spotsS c)[i] (spotsS c)[k] (decide (i = k)) with
    | false =>
      have hz := hbx hb
      simp (config := sc) (disch := try exact dd) [std, e3, e10, e11, e12, e4, e5, efo, eg, eb, e17, e18, e19, k7, eq_true hik2]
      refine oc (hlast false hb) ?_
      simp (config := sc) (disch := try exact dd) [std, hz]
    | true =>
      simp (config := sc) (disch := try exact dd) [std, e3, e10, e11, e12, e4, e5, efo, eg, eb, e17, e18, e19, k7, eq_true hik2]
      refine oc (hlast true hb) ?_
      simp (config := sc) (disch := try exact dd) [std, e3, e10, e11, e12, e4, e5, efo, eg, eb, e17, e18, e19]
      exact nxt_of (k + 1) ⟨by omega, hby hb, by simp (config := sc) (disch := try exact dd) [std, e3, e10, e11, e12, e4, e5, efo, eg, eb, e17, e18, e19]⟩ (by omega)
   ·rw [decide_eq_false hik2] at hlast
    cases hb : onceS (spotsS c)[i] (spotsS c)[k] (decide (i = k)) with
    | false =>
      have hz := hbx hb
      simp (config := sc) (disch := try exact dd) [std, e3, e10, e11, e12, e4, e5, efo, eg, eb, e17, e18, e19, k7, hik2]
      refine oc (hlast false hb) ?_
      simp (config := sc) (disch := try exact dd) [std, hz]
    | true =>
      simp (config := sc) (disch := try exact dd) [std, e3, e10, e11, e12, e4, e5, efo, eg, eb, e17, e18, e19, k7, hik2]
      refine oc (hlast true hb) ?_
      simp (config := sc) (disch := try exact dd) [std, e3, e10, e11, e12, e4, e5, efo, eg, eb, e17, e18, e19]
      exact nxt_of (k + 1) ⟨by omega, hby hb, by simp (config := sc) (disch := try exact dd) [std, e3, e10, e11, e12, e4, e5, efo, eg, eb, e17, e18, e19]⟩ (by omega)
  ·have k7 : ¬ (k : Int) < (spotsS c).length := by omega
   simp (config := sc) (disch := try exact dd) [std, e3, e10, e11, e12, e4, e17, e18, e19, k7]
   exact nxt_of (i + 1) ⟨by omega, hpy (zall_end hlt2 hka), by simp (config := sc) (disch := try exact dd) [std, e3, e10, e11, e12]⟩ (by omega)
 ·have k6 : ¬ (i : Int) < (spotsS c).length := by omega
  have hz : unlikeS c = true := zall_end hlt ha
  simp (config := sc) (disch := try exact dd) [std, e3, e10, e11, e12, k6, hz]
theorem confCheck (c : Cfg) (hc : sizedC c) : Holds Tryz.prog 38 [.d c.d] (.d (.int .i64 (checkS c))) (fun _ => false) := by
 refine Holds.by (by kernel_rfl) Tryz.func38 (by kernel_rfl) rfl [20001] (by simp) (by kernel_rfl) (by kernel_rfl) rfl ?_
 conv in ccs _ => cbv
 cases h1 : formS c with
 | false =>
   have hz : checkS c = 1 := by simp [checkS, h1]
   simp (config := sc) (disch := try exact dd) [std]
   refine oc (confForm c hc) ?_
   simp (config := sc) (disch := try exact dd) [std, h1, hz]
 | true =>
   simp (config := sc) (disch := try exact dd) [std]
   refine oc (confForm c hc) ?_
   simp (config := sc) (disch := try exact dd) [std, h1]
   refine oc (confPlaced c hc h1) ?_
   cases h2 : placedS c with
   | false =>
     have hz : checkS c = 9 := by simp [checkS, h1, h2]
     simp (config := sc) (disch := try exact dd) [std, h1, hz]
   | true =>
     simp (config := sc) (disch := try exact dd) [std, h1]
     refine oc (confUnlike c hc) ?_
     cases h3 : unlikeS c with
     | false =>
       have hz : checkS c = 8 := by simp [checkS, h1, h2, h3]
       simp (config := sc) (disch := try exact dd) [std, hz]
     | true =>
       have hz : checkS c = 0 := by simp [checkS, h1, h2, h3]
       simp (config := sc) (disch := try exact dd) [std, hz]
theorem confRight (c : Cfg) (hc : sizedC c) : Holds Tryz.prog 128 [.d c.d] (.d (.slice ((rightC c).map Spot.d))) (fun _ => false) := by
 refine Holds.by (by kernel_rfl) Tryz.func128 (by kernel_rfl) rfl [20001] (by simp) (by kernel_rfl) (by kernel_rfl) rfl ?_
 conv in ccs _ => cbv
 simp (config := sc) (disch := try exact dd) [std]
 refine oc (confCheck c hc) ?_
 by_cases h : checkS c = 0
 ·have hz : rightC c = spotsS c := by simp [rightC, h]
  simp (config := sc) (disch := try exact dd) [std, h]
  refine oc (confSpots c hc) ?_
  simp (config := sc) (disch := try exact dd) [std, hz]
 ·have hz : rightC c = [] := by simp [rightC, h]
  simp (config := sc) (disch := try exact dd) [std, h, hz]
theorem right_len {c : Cfg} (hc : sizedC c) : (rightC c).length ≤ 1000000 := by
 unfold rightC
 split
 ·exact spots_len hc
 ·simp
theorem find_at' {α : Type} {p : α → Bool} {l : List α} {i : Nat} (hi : i < l.length) (ha : (l.take i).all (fun x => !p x) = true) (hp : p l[i] = true) : l.find? p = some l[i] := by
 rw [List.find?_eq_some_iff_getElem]
 refine ⟨hp, i, hi, rfl, fun j hj => ?_⟩
 rw [List.all_eq_true] at ha
 have := ha l[j] (by rw [List.mem_take_iff_getElem]; exact ⟨j, by omega, rfl⟩)
 simpa using this
theorem find_end' {α : Type} {p : α → Bool} {l : List α} {i : Nat} (hi : ¬ i < l.length) (ha : (l.take i).all (fun x => !p x) = true) : l.find? p = none := by
 rw [List.find?_eq_none]
 intro x hx
 have := List.all_eq_true.1 (allc_end hi ha) x hx
 simpa using this
def hasX (a : Int) (x : Spot) : Bool := hasA x.s.base x.s.bits a
def cfI (c : Cfg) (a : Int) (i : Nat) (S : PS) : Prop :=
 i ≤ (rightC c).length ∧ ((rightC c).take i).all (fun x => !hasX a x) = true ∧ S.t 1 = .d (.int .i64 a) ∧ S.t 10 = .d (.slice ((rightC c).map Spot.d)) ∧ S.t 11 = .d (.int .i64 (rightC c).length) ∧ S.t 12 = .d (.int .i64 i)
def foundD (x : Option Spot) : PV := .tup [.d (.int .i64 ((x.map fun x => (x.net : Int)).getD 0)), .d (.int .i64 ((x.map fun x => (x.sub : Int)).getD 0)), .d (.bool x.isSome)]
theorem foundD_n : foundD none = .tup [.d (.int .i64 0), .d (.int .i64 0), .d (.bool false)] := rfl
theorem foundD_s (x : Spot) : foundD (some x) = .tup [.d (.int .i64 x.net), .d (.int .i64 x.sub), .d (.bool true)] := rfl
theorem confFind (c : Cfg) (a : Int) (hc : sizedC c) : Holds Tryz.prog 94 [.d c.d, .d (.int .i64 a)] (foundD (findC c a)) (fun _ => false) := by
 have hsplit : findC c a = none ∨ ∃ x, findC c a = some x := by cases findC c a <;> simp
 refine Holds.by (by kernel_rfl) Tryz.func94 (by kernel_rfl) rfl [20002] (by simp) (by kernel_rfl) (by kernel_rfl) (by rcases hsplit with h | ⟨x, h⟩ <;> rw [h] <;> rfl) ?_
 conv in ccs _ => cbv
 have hsl := right_len hc
 simp (config := sc) (disch := try exact dd) [std]
 refine oc (confRight c hc) ?_
 simp (config := sc) (disch := try exact dd) [std]
 refine lp (cfI c a) (fun i => (rightC c).length - i) 0 ⟨by omega, by simp, by simp (config := sc) (disch := try exact dd) [std]⟩ ?_
 rintro i S ⟨hi, ha, e1, e10, e11, e12⟩
 by_cases hlt : i < (rightC c).length
 ·have k6 : (i : Int) < (rightC c).length := by omega
  have hq := addrHas (rightC c)[i].s.base (rightC c)[i].s.bits a
  cases hb : hasA (rightC c)[i].s.base (rightC c)[i].s.bits a with
  | true =>
    have hz : findC c a = some (rightC c)[i] := find_at' (p := hasX a) hlt ha hb
    rw [hb] at hq
    rw [hz, foundD_s]
    simp (config := sc) (disch := try exact dd) [std, e1, e10, e11, e12, k6]
    refine oc hq ?_
    simp (config := sc) (disch := try exact dd) [std, e1, e10, e11, e12]
  | false =>
    rw [hb] at hq
    simp (config := sc) (disch := try exact dd) [std, e1, e10, e11, e12, k6]
    refine oc hq ?_
    simp (config := sc) (disch := try exact dd) [std, e1, e10, e11, e12]
    exact nxt_of (i + 1) ⟨by omega, allc_step hlt ha (by simp [hasX, hb]), by simp (config := sc) (disch := try exact dd) [std, e1, e10, e11, e12]⟩ (by omega)
 ·have k6 : ¬ (i : Int) < (rightC c).length := by omega
  have hz : findC c a = none := find_end' (p := hasX a) hlt ha
  rw [hz, foundD_n]
  simp (config := sc) (disch := try exact dd) [std, e1, e10, e11, e12, k6]
def wireX (w : Int) (x : Spot) : Bool := decide (x.s.iface = w) && decide (0 < w)
def cwI (c : Cfg) (w : Int) (i : Nat) (S : PS) : Prop :=
 i ≤ (rightC c).length ∧ ((rightC c).take i).all (fun x => !wireX w x) = true ∧ S.t 1 = .d (.int .i64 w) ∧ S.t 10 = .d (.slice ((rightC c).map Spot.d)) ∧ S.t 11 = .d (.int .i64 (rightC c).length) ∧ S.t 12 = .d (.int .i64 i)
theorem confOnWire (c : Cfg) (w : Int) (hc : sizedC c) : Holds Tryz.prog 95 [.d c.d, .d (.int .i64 w)] (foundD (wireC c w)) (fun _ => false) := by
 have hsplit : wireC c w = none ∨ ∃ x, wireC c w = some x := by cases wireC c w <;> simp
 refine Holds.by (by kernel_rfl) Tryz.func95 (by kernel_rfl) rfl [20002] (by simp) (by kernel_rfl) (by kernel_rfl) (by rcases hsplit with h | ⟨x, h⟩ <;> rw [h] <;> rfl) ?_
 conv in ccs _ => cbv
 have hsl := right_len hc
 simp (config := sc) (disch := try exact dd) [std]
 refine oc (confRight c hc) ?_
 simp (config := sc) (disch := try exact dd) [std]
 refine lp (cwI c w) (fun i => (rightC c).length - i) 0 ⟨by omega, by simp, by simp (config := sc) (disch := try exact dd) [std]⟩ ?_
 rintro i S ⟨hi, ha, e1, e10, e11, e12⟩
 by_cases hlt : i < (rightC c).length
 ·have k6 : (i : Int) < (rightC c).length := by omega
  by_cases h1 : (rightC c)[i].s.iface = w
  ·by_cases h2 : 0 < w
   ·have hz : wireC c w = some (rightC c)[i] := find_at' (p := wireX w) hlt ha (by simp [wireX, h1, h2])
    rw [hz, foundD_s]
    simp (config := sc) (disch := try exact dd) [std, e1, e10, e11, e12, k6, eq_true h1, h2]
   ·have hw : wireX w (rightC c)[i] = false := by simp only [wireX, decide_eq_false h2, Bool.and_false]
    simp (config := sc) (disch := try exact dd) [std, e1, e10, e11, e12, k6, eq_true h1, h2]
    exact nxt_of (i + 1) ⟨by omega, allc_step hlt ha (by rw [hw]; rfl), by simp (config := sc) (disch := try exact dd) [std, e1, e10, e11, e12]⟩ (by omega)
  ·have hw : wireX w (rightC c)[i] = false := by simp only [wireX, decide_eq_false h1, Bool.false_and]
   simp (config := sc) (disch := try exact dd) [std, e1, e10, e11, e12, k6, h1]
   exact nxt_of (i + 1) ⟨by omega, allc_step hlt ha (by rw [hw]; rfl), by simp (config := sc) (disch := try exact dd) [std, e1, e10, e11, e12]⟩ (by omega)
 ·have k6 : ¬ (i : Int) < (rightC c).length := by omega
  have hz : wireC c w = none := find_end' (p := wireX w) hlt ha
  rw [hz, foundD_n]
  simp (config := sc) (disch := try exact dd) [std, e1, e10, e11, e12, k6]
end Go.Proofs.YtnkmlhlegndlhaaGreat
