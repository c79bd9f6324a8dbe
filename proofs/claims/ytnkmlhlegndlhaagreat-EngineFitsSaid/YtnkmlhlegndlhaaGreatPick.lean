/- The place of a message, and its subnet: what the program's pick and the document's layer 14 both answer. -/
import Derived.Test.YtnkmlhlegndlhaaGreatConfT
namespace Go.Proofs.YtnkmlhlegndlhaaGreat
open BoEng Go
set_option maxRecDepth 100000
attribute [-simp] List.map_take List.map_drop List.length_flatMap
set_option linter.unusedSimpArgs false
set_option linter.unusedVariables false
def placeS (m : Msg) : Option Int :=
 match (findS m.opts 82).bind linkS with
 | some a => some a
 | none => if m.gi ≠ 0 then some m.gi else if (numS m.opts 118).getD 0 ≠ 0 then some ((numS m.opts 118).getD 0) else if m.ci ≠ 0 then some m.ci else none
def optA (a : Option Int) : PV := .tup [.d (.int .i64 (a.getD 0)), .d (.bool a.isSome)]
@[simp] theorem optA_n : optA none = .tup [.d (.int .i64 0), .d (.bool false)] := rfl
@[simp] theorem optA_s (a : Int) : optA (some a) = .tup [.d (.int .i64 a), .d (.bool true)] := rfl
def subnetS (c : Cfg) (m : Msg) (w : Int) : Option Spot := if rightM m = true then (match placeS m with | some a => findC c a | none => wireC c w) else none
theorem pickSome (a : Int) : Holds Tryz.prog 163 [.d (.int .i64 a)] (.tup [.d (.int .i64 a), .d (.bool (!decide (a = 0)))]) (fun _ => false) := by
 refine Holds.by (by kernel_rfl) Tryz.func163 (by kernel_rfl) rfl [] (by simp) (by kernel_rfl) (by kernel_rfl) rfl ?_
 conv in ccs _ => cbv
 simp (config := sc) (disch := try exact dd) [std]
theorem pickLink (m : Msg) (hm : sizedM m) : Holds Tryz.prog 161 [.d m.d] (.tup [.d (.int .i64 (((findS m.opts 82).bind linkS).getD 0)), .d (.bool ((findS m.opts 82).bind linkS).isSome)]) (fun _ => false) := by
 refine Holds.by (by kernel_rfl) Tryz.func161 (by kernel_rfl) rfl [20001] (by simp) (by kernel_rfl) (by kernel_rfl) rfl ?_
 conv in ccs _ => cbv
 obtain ⟨hc, hs⟩ := hm
 have ht := tlvFind m.opts 82 hs
 cases h : findS m.opts 82 with
 | none =>
   rw [h] at ht
   simp (config := sc) (disch := try exact dd) [std]
   refine oc ht ?_
   simp (config := sc) (disch := try exact dd) [std]
 | some d =>
   rw [h] at ht
   have hd := findS_sized hs h
   simp (config := sc) (disch := try exact dd) [std]
   refine oc ht ?_
   simp (config := sc) (disch := try exact dd) [std]
   refine oc (relayLink d hd) ?_
   simp (config := sc) (disch := try exact dd) [std]
theorem pickW1 (m : Msg) : Holds Tryz.prog 162 [.d m.d] (.tup [.d (.int .i64 m.gi), .d (.bool (!decide (m.gi = 0)))]) (fun _ => false) := by
 refine Holds.by (by kernel_rfl) Tryz.func162 (by kernel_rfl) rfl [20001] (by simp) (by kernel_rfl) (by kernel_rfl) rfl ?_
 conv in ccs _ => cbv
 simp (config := sc) (disch := try exact dd) [std]
 refine oc (pickSome m.gi) ?_
 simp (config := sc) (disch := try exact dd) [std]
theorem pickW2 (m : Msg) (hm : sizedM m) : Holds Tryz.prog 164 [.d m.d] (.tup [.d (.int .i64 ((numS m.opts 118).getD 0)), .d (.bool (!decide ((numS m.opts 118).getD 0 = 0)))]) (fun _ => false) := by
 refine Holds.by (by kernel_rfl) Tryz.func164 (by kernel_rfl) rfl [20001] (by simp) (by kernel_rfl) (by kernel_rfl) rfl ?_
 conv in ccs _ => cbv
 simp (config := sc) (disch := try exact dd) [std]
 refine oc (optsNumber m.opts 118 hm.2) ?_
 simp (config := sc) (disch := try exact dd) [std]
 refine oc (pickSome _) ?_
 simp (config := sc) (disch := try exact dd) [std]
theorem pickW3 (m : Msg) : Holds Tryz.prog 165 [.d m.d] (.tup [.d (.int .i64 m.ci), .d (.bool (!decide (m.ci = 0)))]) (fun _ => false) := by
 refine Holds.by (by kernel_rfl) Tryz.func165 (by kernel_rfl) rfl [20001] (by simp) (by kernel_rfl) (by kernel_rfl) rfl ?_
 conv in ccs _ => cbv
 simp (config := sc) (disch := try exact dd) [std]
 refine oc (pickSome m.ci) ?_
 simp (config := sc) (disch := try exact dd) [std]
def wayD (f : Nat) : DV := .agg [.opq (.func (.func f) #[] #[])]
@[simp] theorem wayD_eq (f : Nat) : wayD f = .agg [.opq (.func (.func f) #[] #[])] := rfl
theorem pickWays : Holds Tryz.prog 140 [] (.d (.slice [wayD 161, wayD 162, wayD 164, wayD 165])) (fun _ => false) := by
 refine Holds.by (by kernel_rfl) Tryz.func140 (by kernel_rfl) rfl [] (by simp) (by kernel_rfl) (by kernel_rfl) rfl ?_
 conv in ccs _ => cbv
 simp (config := sc) (disch := try exact dd) [std]
def wayR (m : Msg) : Nat → Option Int
 | 0 => (findS m.opts 82).bind linkS
 | 1 => if m.gi = 0 then none else some m.gi
 | 2 => if (numS m.opts 118).getD 0 = 0 then none else some ((numS m.opts 118).getD 0)
 | _ => if m.ci = 0 then none else some m.ci
def wayF : Nat → Nat
 | 0 => 161
 | 1 => 162
 | 2 => 164
 | _ => 165
theorem place_ways (m : Msg) : placeS m = match wayR m 0 with | some a => some a | none => match wayR m 1 with | some a => some a | none => match wayR m 2 with | some a => some a | none => wayR m 3 := by
 unfold placeS wayR
 cases (findS m.opts 82).bind linkS with
 | some a => rfl
 | none =>
   by_cases h1 : m.gi = 0
   ·by_cases h2 : (numS m.opts 118).getD 0 = 0
    ·by_cases h3 : m.ci = 0 <;> simp [h1, h2, h3]
    ·simp [h1, h2]
   ·simp [h1]
theorem wayH (m : Msg) (hm : sizedM m) (i : Nat) (hi : i < 4) : ∃ v : Int, ((wayR m i = none) ∨ (wayR m i = some v)) ∧ Holds Tryz.prog (wayF i) [.d m.d] (.tup [.d (.int .i64 v), .d (.bool (wayR m i).isSome)]) (fun _ => false) := by
 match i, hi with
 | 0, _ =>
   refine ⟨(wayR m 0).getD 0, ?_, pickLink m hm⟩
   cases wayR m 0 <;> simp
 | 1, _ =>
   refine ⟨m.gi, by by_cases h : m.gi = 0 <;> simp [wayR, h], ?_⟩
   have hs : (wayR m 1).isSome = !decide (m.gi = 0) := by by_cases h : m.gi = 0 <;> simp [wayR, h]
   rw [hs]
   exact pickW1 m
 | 2, _ =>
   refine ⟨(numS m.opts 118).getD 0, by by_cases h : (numS m.opts 118).getD 0 = 0 <;> simp [wayR, h], ?_⟩
   have hs : (wayR m 2).isSome = !decide ((numS m.opts 118).getD 0 = 0) := by by_cases h : (numS m.opts 118).getD 0 = 0 <;> simp [wayR, h]
   rw [hs]
   exact pickW2 m hm
 | 3, _ =>
   refine ⟨m.ci, by by_cases h : m.ci = 0 <;> simp [wayR, h], ?_⟩
   have hs : (wayR m 3).isSome = !decide (m.ci = 0) := by by_cases h : m.ci = 0 <;> simp [wayR, h]
   rw [hs]
   exact pickW3 m
def plP (m : Msg) (L : List DV) (i : Nat) (S : PS) : Prop :=
 i ≤ 4 ∧ (∀ j, j < i → wayR m j = none) ∧ S.t 1 = .cptr (cells m.d) ∧ S.t 8 = .d (.slice L) ∧ S.t 9 = .d (.int .i64 4) ∧ S.t 10 = .d (.int .i64 i)
theorem pickPlace (m : Msg) (hm : sizedM m) : Holds Tryz.prog 93 [.d m.d] (optA (placeS m)) (fun _ => false) := by
 refine Holds.by (by kernel_rfl) Tryz.func93 (by kernel_rfl) rfl [20001] (by simp) (by kernel_rfl) (by kernel_rfl) rfl ?_
 conv in ccs _ => cbv
 simp (config := sc) (disch := try exact dd) [std]
 refine oc pickWays ?_
 have hL : ∀ i, i < 4 → [wayD 161, wayD 162, wayD 164, wayD 165][i]? = some (wayD (wayF i)) := by
  intro i hi
  match i, hi with
  | 0, _ => rfl
  | 1, _ => rfl
  | 2, _ => rfl
  | 3, _ => rfl
 have hlen : [wayD 161, wayD 162, wayD 164, wayD 165].length = 4 := rfl
 generalize [wayD 161, wayD 162, wayD 164, wayD 165] = L at hL hlen
 simp (config := sc) (disch := try exact dd) [std, hlen]
 refine lp (plP m L) (fun i => 4 - i) 0 ⟨by omega, by simp, by simp (config := sc) (disch := try exact dd) [std]⟩ ?_
 rintro i S ⟨hi, hn, e1, e8, e9, e10⟩
 by_cases hlt : i < 4
 ·have k6 : (i : Int) < 4 := by omega
  have hLi := hL i hlt
  obtain ⟨v, hv, hH⟩ := wayH m hm i hlt
  generalize wayF i = f at hLi hH
  have hil : i < L.length := by omega
  have hLv : L[i] = wayD f := by
   rw [List.getElem?_eq_getElem hil] at hLi
   exact Option.some.inj hLi
  simp (config := sc) (disch := try exact dd) [std, e1, e8, e9, e10, k6, indexAddrV_lit, hLv]
  refine o_call (f := f) (caps := []) rfl rfl hH rfl rfl ?_
  rcases hv with hv | hv
  ·rw [hv]
   simp (config := sc) (disch := try exact dd) [std, e1, e8, e9, e10]
   exact nxt_of (i + 1) ⟨by omega, fun j hj => by
    rcases Nat.lt_or_ge j i with h | h
    ·exact hn j h
    ·have : j = i := by omega
     subst this
     exact hv, by simp (config := sc) (disch := try exact dd) [std, e1, e8, e9, e10]⟩ (by omega)
  ·have hz : placeS m = some v := by
    rw [place_ways]
    match i, hlt, hn, hv with
    | 0, _, _, hv => simp [hv]
    | 1, _, hn, hv => simp [hv, hn 0 (by omega)]
    | 2, _, hn, hv => simp [hv, hn 0 (by omega), hn 1 (by omega)]
    | 3, _, hn, hv => simp [hv, hn 0 (by omega), hn 1 (by omega), hn 2 (by omega)]
   rw [hv, hz]
   simp (config := sc) (disch := try exact dd) [std, e1, e8, e9, e10]
 ·have k6 : ¬ (i : Int) < 4 := by omega
  have hz : placeS m = none := by
   rw [place_ways]
   simp [hn 0 (by omega), hn 1 (by omega), hn 2 (by omega), hn 3 (by omega)]
  rw [hz]
  simp (config := sc) (disch := try exact dd) [std, e1, e8, e9, e10, k6]
theorem ref14Place (m : Msg) (hm : sizedM m) : Holds Tryz.prog 56 [.d m.d] (optA (placeS m)) (fun _ => false) := by
 refine Holds.by (by kernel_rfl) Tryz.func56 (by kernel_rfl) rfl [20001] (by simp) (by kernel_rfl) (by kernel_rfl) rfl ?_
 conv in ccs _ => cbv
 obtain ⟨hc, hs⟩ := hm
 have ht := ref03Find m.opts 82 hs
 have hrest : (findS m.opts 82).bind linkS = none → placeS m = if m.gi ≠ 0 then some m.gi else if (numS m.opts 118).getD 0 ≠ 0 then some ((numS m.opts 118).getD 0) else if m.ci ≠ 0 then some m.ci else none := fun h => by
  unfold placeS; rw [h]
 have hnum := ref05Number m.opts 118 hs
 cases h : findS m.opts 82 with
 | none =>
   rw [h] at ht
   rw [hrest (by rw [h]; rfl)]
   simp (config := sc) (disch := try exact dd) [std]
   refine oc ht ?_
   by_cases h1 : m.gi = 0
   ·simp (config := sc) (disch := try exact dd) [std, h1]
    refine oc hnum ?_
    cases h2 : numS m.opts 118 with
    | none =>
      by_cases h3 : m.ci = 0
      ·simp (config := sc) (disch := try exact dd) [std, h1, h3]
      ·simp (config := sc) (disch := try exact dd) [std, h1, h3]
    | some v =>
      by_cases h4 : v = 0
      ·by_cases h3 : m.ci = 0
       ·simp (config := sc) (disch := try exact dd) [std, h1, h3, h4]
       ·simp (config := sc) (disch := try exact dd) [std, h1, h3, h4]
      ·simp (config := sc) (disch := try exact dd) [std, h1, h4]
   ·simp (config := sc) (disch := try exact dd) [std, h1]
 | some d =>
   rw [h] at ht
   have hd := findS_sized hs h
   have hlk := ref06Link d hd
   cases h5 : linkS d with
   | some a =>
     rw [h5] at hlk
     have hz : placeS m = some a := by unfold placeS; rw [h]; simp [h5]
     rw [hz]
     simp (config := sc) (disch := try exact dd) [std]
     refine oc ht ?_
     simp (config := sc) (disch := try exact dd) [std]
     refine oc hlk ?_
     simp (config := sc) (disch := try exact dd) [std]
   | none =>
     rw [h5] at hlk
     rw [hrest (by rw [h]; simp [h5])]
     simp (config := sc) (disch := try exact dd) [std]
     refine oc ht ?_
     simp (config := sc) (disch := try exact dd) [std]
     refine oc hlk ?_
     by_cases h1 : m.gi = 0
     ·simp (config := sc) (disch := try exact dd) [std, h1]
      refine oc hnum ?_
      cases h2 : numS m.opts 118 with
      | none =>
        by_cases h3 : m.ci = 0
        ·simp (config := sc) (disch := try exact dd) [std, h1, h3]
        ·simp (config := sc) (disch := try exact dd) [std, h1, h3]
      | some v =>
        by_cases h4 : v = 0
        ·by_cases h3 : m.ci = 0
         ·simp (config := sc) (disch := try exact dd) [std, h1, h3, h4]
         ·simp (config := sc) (disch := try exact dd) [std, h1, h3, h4]
        ·simp (config := sc) (disch := try exact dd) [std, h1, h4]
     ·simp (config := sc) (disch := try exact dd) [std, h1]
theorem foundD_free (x : Option Spot) : ptrFree (foundD x) = true := by cases x <;> rfl
theorem pickSubnet (c : Cfg) (m : Msg) (w : Int) (hc : sizedC c) (hm : sizedM m) : Holds Tryz.prog 42 [.d c.d, .d m.d, .d (.int .i64 w)] (foundD (subnetS c m w)) (fun _ => false) := by
 refine Holds.by (by kernel_rfl) Tryz.func42 (by kernel_rfl) rfl [20003, 20004] (by simp) (by kernel_rfl) (by kernel_rfl) (foundD_free _) ?_
 conv in ccs _ => cbv
 have hp := pickPlace m hm
 simp (config := sc) (disch := try exact dd) [std]
 refine oc (msgRight m hm) ?_
 cases h1 : rightM m with
 | false =>
   have hz : subnetS c m w = none := by simp [subnetS, h1]
   rw [hz, foundD_n]
   simp (config := sc) (disch := try exact dd) [std]
 | true =>
   simp (config := sc) (disch := try exact dd) [std]
   refine oc hp ?_
   cases h2 : placeS m with
   | some a =>
     have hz : subnetS c m w = findC c a := by simp [subnetS, h1, h2]
     rw [hz]
     have hq := confFind c a hc
     simp (config := sc) (disch := try exact dd) [std]
     refine oc hq ?_
     cases findC c a with
     | none => simp (config := sc) (disch := try exact dd) [std, foundD_n]
     | some x => simp (config := sc) (disch := try exact dd) [std, foundD_s]
   | none =>
     have hz : subnetS c m w = wireC c w := by simp [subnetS, h1, h2]
     rw [hz]
     have hq := confOnWire c w hc
     simp (config := sc) (disch := try exact dd) [std]
     refine oc hq ?_
     cases wireC c w with
     | none => simp (config := sc) (disch := try exact dd) [std, foundD_n]
     | some x => simp (config := sc) (disch := try exact dd) [std, foundD_s]
theorem ref14Subnet (c : Cfg) (m : Msg) (w : Int) (hc : sizedC c) (hm : sizedM m) : Holds Tryz.prog 17 [.d c.d, .d m.d, .d (.int .i64 w)] (foundD (subnetS c m w)) (fun _ => false) := by
 refine Holds.by (by kernel_rfl) Tryz.func17 (by kernel_rfl) rfl [20003, 20004] (by simp) (by kernel_rfl) (by kernel_rfl) (foundD_free _) ?_
 conv in ccs _ => cbv
 have hp := ref14Place m hm
 simp (config := sc) (disch := try exact dd) [std]
 refine oc (ref04Right m hm) ?_
 cases h1 : rightM m with
 | false =>
   have hz : subnetS c m w = none := by simp [subnetS, h1]
   rw [hz, foundD_n]
   simp (config := sc) (disch := try exact dd) [std]
 | true =>
   simp (config := sc) (disch := try exact dd) [std]
   refine oc hp ?_
   cases h2 : placeS m with
   | some a =>
     have hz : subnetS c m w = findC c a := by simp [subnetS, h1, h2]
     rw [hz]
     have hq := ref13Find c a hc
     simp (config := sc) (disch := try exact dd) [std]
     refine oc hq ?_
     cases findC c a with
     | none => simp (config := sc) (disch := try exact dd) [std, foundD_n]
     | some x => simp (config := sc) (disch := try exact dd) [std, foundD_s]
   | none =>
     have hz : subnetS c m w = wireC c w := by simp [subnetS, h1, h2]
     rw [hz]
     have hq := ref13OnWire c w hc
     simp (config := sc) (disch := try exact dd) [std]
     refine oc hq ?_
     cases wireC c w with
     | none => simp (config := sc) (disch := try exact dd) [std, foundD_n]
     | some x => simp (config := sc) (disch := try exact dd) [std, foundD_s]
end Go.Proofs.YtnkmlhlegndlhaaGreat
