/- What a relay says: what the program's relay and the document's layer 6 both answer. -/
import Derived.Test.YtnkmlhlegndlhaaGreatTlv
namespace Go.Proofs.YtnkmlhlegndlhaaGreat
open BoEng Go
set_option maxRecDepth 100000
attribute [-simp] List.map_take List.map_drop List.length_flatMap
set_option linter.unusedSimpArgs false
set_option linter.unusedVariables false
def partsN : Nat → List UInt8 → Option (List Opt)
 | _, [] => some []
 | 0, _ => none
 | _ + 1, [_] => none
 | n + 1, c :: k :: r => if r.length < k.toNat then none else (partsN n (r.drop k.toNat)).map (⟨c.toNat, r.take k.toNat⟩ :: ·)
def partsS (b : List UInt8) : Option (List Opt) := partsN b.length b
theorem partsN_mono : ∀ (n m : Nat) (b : List UInt8), b.length ≤ n → b.length ≤ m → partsN n b = partsN m b
 | n, m, [], _, _ => by cases n <;> cases m <;> rfl
 | 0, _, x :: r, h, _ => by simp at h
 | _, 0, x :: r, _, h => by simp at h
 | n + 1, m + 1, [x], _, _ => rfl
 | n + 1, m + 1, c :: k :: r, h1, h2 => by
   simp only [partsN]
   simp only [List.length_cons] at h1 h2
   rw [partsN_mono n m (r.drop k.toNat) (by simp; omega) (by simp; omega)]
theorem partsS_nil : partsS [] = some [] := rfl
theorem partsS_one (x : UInt8) : partsS [x] = none := rfl
theorem partsS_two (c k : UInt8) (r : List UInt8) : partsS (c :: k :: r) = if r.length < k.toNat then none else (partsS (r.drop k.toNat)).map (⟨c.toNat, r.take k.toNat⟩ :: ·) := by
 unfold partsS
 simp only [List.length_cons, partsN]
 rw [partsN_mono (r.length + 1) (r.drop k.toNat).length _ (by simp; omega) (Nat.le_refl _)]
theorem partsN_sized : ∀ (n : Nat) (b : List UInt8) (l : List Opt), b.length ≤ n → partsN n b = some l → l.length ≤ b.length ∧ ∀ o ∈ l, o.data.length ≤ 255 ∧ o.data.length ≤ b.length
 | n, [], l, _, h => by cases n <;> (simp [partsN] at h; subst h; simp)
 | 0, x :: r, l, h, _ => by simp at h
 | n + 1, [x], l, _, h => by simp [partsN] at h
 | n + 1, c :: k :: r, l, hl, h => by
   simp only [partsN] at h
   split at h
   ·cases h
   ·rename_i hk
    simp only [Option.map_eq_some_iff] at h
    obtain ⟨l', h', rfl⟩ := h
    simp only [List.length_cons] at hl
    obtain ⟨h1, h2⟩ := partsN_sized n _ l' (by simp; omega) h'
    have hk2 := k.toNat_lt
    simp only [List.length_drop] at h1 h2
    refine ⟨by simp only [List.length_cons]; omega, fun o ho => ?_⟩
    rcases List.mem_cons.1 ho with rfl | ho
    ·simp only [List.length_take, List.length_cons]
     omega
    ·have := h2 o ho
     simp only [List.length_cons]
     omega
theorem partsS_sized {b : List UInt8} {l : List Opt} (hb : b.length ≤ 600) (h : partsS b = some l) : sized l := by
 obtain ⟨h1, h2⟩ := partsN_sized _ b l (Nat.le_refl _) h
 exact ⟨by omega, fun o ho => by have := (h2 o ho).1; omega⟩
def partsE (b : List UInt8) : Int := if 600 < b.length then 3 else if (partsS b).isSome = true then 0 else 2
def partsV (b : List UInt8) : List Opt := if 600 < b.length then [] else (partsS b).getD []
theorem partsV_sized (b : List UInt8) : sized (partsV b) := by
 unfold partsV
 split
 ·exact ⟨by simp, by simp⟩
 ·rename_i h
  cases hp : partsS b with
  | none => exact ⟨by simp, by simp⟩
  | some l => exact partsS_sized (by omega) hp
def linkS (b : List UInt8) : Option Int := match (partsV b).find? fun o => decide (o.code = 5) with | some o => if o.data.length = 4 then some (valB o.data) else none | none => none
theorem parts_step {b : List UInt8} {out : List Opt} {rest : List UInt8} (hp : partsS b = (partsS rest).map (out ++ ·)) {c k : UInt8} {r : List UInt8} (hr : rest = c :: k :: r) (hk : ¬ r.length < k.toNat) :
  partsS b = (partsS (r.drop k.toNat)).map ((out ++ [⟨c.toNat, r.take k.toNat⟩]) ++ ·) := by
 rw [hp, hr, partsS_two, if_neg hk]
 cases partsS (r.drop k.toNat) <;> simp
def rpI (b : List UInt8) (p : List Opt × List UInt8) (S : PS) : Prop :=
 p.2.length ≤ 600 ∧ p.1.length + p.2.length ≤ 600 ∧ (∀ o ∈ p.1, o.data.length ≤ 600) ∧ partsS b = (partsS p.2).map (p.1 ++ ·) ∧ S.t 4 = .d (.slice (p.1.map Opt.d)) ∧ S.own (.t 4 0) = true ∧ S.t 5 = .d (.slice (p.2.map byteD))
theorem relayParts (b : List UInt8) (hb : b.length ≤ 100000) : Holds Tryz.prog 177 [.d (.slice (b.map byteD))] (.tup [.d (.slice ((partsV b).map Opt.d)), .d (.int .i64 (partsE b))]) (fun _ => false) := by
 refine Holds.by (by kernel_rfl) Tryz.func177 (by kernel_rfl) rfl [34] (by simp) (by kernel_rfl) (by kernel_rfl) rfl ?_
 conv in ccs _ => cbv
 by_cases hbig : (600 : Int) < b.length
 ·have h1 : partsE b = 3 := by simp only [partsE, if_pos (show 600 < b.length by omega)]
  have h2 : partsV b = [] := by simp only [partsV, if_pos (show 600 < b.length by omega)]
  simp (config := sc) (disch := try exact dd) [std, hbig, h1, h2]
 have h0 : ¬ 600 < b.length := by omega
 simp (config := sc) (disch := try exact dd) [std, hbig]
 refine lp (rpI b) (fun p => p.2.length) ([], b) ⟨by simp; omega, by simp; omega, by simp, by simp, by simp⟩ ?_
 rintro ⟨out, rest⟩ S ⟨hr, hor, hod, hp, e4, o4, e5⟩
 simp only at hr hor hod hp e4 e5
 match rest, hr, hor, hp, e5 with
 | [], hr, hor, hp, e5 =>
   have h1 : partsE b = 0 := by simp [partsE, h0, hp, partsS_nil]
   have h2 : partsV b = out := by simp [partsV, h0, hp, partsS_nil]
   simp (config := sc) (disch := try exact dd) [std, e4, o4, e5, h1, h2]
 | [x], hr, hor, hp, e5 =>
   have h1 : partsE b = 2 := by simp [partsE, h0, hp, partsS_one]
   have h2 : partsV b = [] := by simp [partsV, h0, hp, partsS_one]
   simp (config := sc) (disch := try exact dd) [std, e4, o4, e5, h1, h2]
 | c :: k :: r, hr, hor, hp, e5 =>
   have hk2 := k.toNat_lt
   simp only [List.length_cons] at hr hor
   by_cases hk : r.length < k.toNat
   ·have h1 : partsE b = 2 := by simp [partsE, h0, hp, partsS_two, hk]
    have h2 : partsV b = [] := by simp [partsV, h0, hp, partsS_two, hk]
    have k1 : ¬ (r.length : Int) + 1 + 1 < 2 := by omega
    have k2 : (r.length : Int) + 1 + 1 < 2 + k.toNat := by omega
    simp (config := sc) (disch := try exact dd) [std, e4, o4, e5, h1, h2, k1, k2]
   ·have k1 : ¬ (r.length : Int) + 1 + 1 < 2 := by omega
    have k2 : ¬ (r.length : Int) + 1 + 1 < 2 + k.toNat := by omega
    have hst := parts_step hp rfl hk
    have ht : ((2 : Int) + k.toNat).toNat = k.toNat + 1 + 1 := by omega
    simp (config := sc) (disch := try exact dd) [std, e4, o4, e5, k1, k2, ht]
    exact nxt_of (out ++ [⟨c.toNat, r.take k.toNat⟩], r.drop k.toNat) ⟨by simp; omega, by simp; omega, by
     intro o ho
     rcases List.mem_append.1 ho with h | h
     ·exact hod o h
     ·simp at h
      subst h
      simp
      omega, hst, by simp (config := sc) (disch := try exact dd) [std, e4, o4, e5, ht]⟩ (by simp; omega)
def qpI (b : List UInt8) (p : List Opt × Nat) (S : PS) : Prop :=
 p.2 ≤ b.length ∧ p.1.length ≤ p.2 ∧ (∀ o ∈ p.1, o.data.length ≤ 600) ∧ partsS b = (partsS (b.drop p.2)).map (p.1 ++ ·) ∧ S.t 0 = .d (.slice (b.map byteD)) ∧ S.t 4 = .d (.slice (p.1.map Opt.d)) ∧ S.own (.t 4 0) = true ∧ S.t 5 = .d (.int .i64 p.2)
theorem ref06Parts (b : List UInt8) (hb : b.length ≤ 100000) : Holds Tryz.prog 154 [.d (.slice (b.map byteD))] (.tup [.d (.slice ((partsV b).map Opt.d)), .d (.int .i64 (partsE b))]) (fun _ => false) := by
 refine Holds.by (by kernel_rfl) Tryz.func154 (by kernel_rfl) rfl [39] (by simp) (by kernel_rfl) (by kernel_rfl) rfl ?_
 conv in ccs _ => cbv
 by_cases hbig : (600 : Int) < b.length
 ·have h1 : partsE b = 3 := by simp only [partsE, if_pos (show 600 < b.length by omega)]
  have h2 : partsV b = [] := by simp only [partsV, if_pos (show 600 < b.length by omega)]
  simp (config := sc) (disch := try exact dd) [std, hbig, h1, h2]
 have h0 : ¬ 600 < b.length := by omega
 simp (config := sc) (disch := try exact dd) [std, hbig]
 refine lp (qpI b) (fun p => b.length - p.2) ([], 0) ⟨by simp, by simp, by simp, by simp, by simp⟩ ?_
 rintro ⟨out, i⟩ S ⟨hi, hoi, hod, hp, e0, e4, o4, e5⟩
 simp only at hi hoi hod hp e4 e5
 by_cases hlt : i < b.length
 ·have hd1 : b.drop i = b[i] :: b.drop (i + 1) := List.drop_eq_getElem_cons hlt
  by_cases hlast : i + 1 = b.length
  ·have hd : b.drop i = [b[i]] := by rw [hd1, hlast]; simp
   have h1 : partsE b = 2 := by simp [partsE, h0, hp, hd, partsS_one]
   have h2 : partsV b = [] := by simp [partsV, h0, hp, hd, partsS_one]
   have k1 : (i : Int) + 1 = b.length := by omega
   simp (config := sc) (disch := try exact dd) [std, e0, e4, o4, e5, h1, h2, k1]
  ·have hlt1 : i + 1 < b.length := by omega
   have hd2 : b.drop i = b[i] :: b[i + 1] :: b.drop (i + 2) := by rw [hd1, List.drop_eq_getElem_cons hlt1]
   have k1 : ¬ (i : Int) + 1 = b.length := by omega
   have hn1 : nth b ((i : Int) + 1) = b[i + 1] := by
    have := nth_nat (l := b) (i := i + 1) hlt1
    rw [← this]
    simp
   have hk2 := b[i + 1].toNat_lt
   have hlen : (b.drop (i + 2)).length = b.length - (i + 2) := by simp
   by_cases hk : (b.drop (i + 2)).length < b[i + 1].toNat
   ·have h1 : partsE b = 2 := by simp only [partsE, if_neg h0, hp, hd2, partsS_two, if_pos hk]; simp
    have h2 : partsV b = [] := by simp only [partsV, if_neg h0, hp, hd2, partsS_two, if_pos hk]; simp
    have k2 : (b.length : Int) < i + 2 + b[i + 1].toNat := by omega
    simp (config := sc) (disch := try exact dd) [std, e0, e4, o4, e5, h1, h2, k1, k2, hn1]
   ·have k2 : ¬ (b.length : Int) < i + 2 + b[i + 1].toNat := by omega
    have hst := parts_step hp hd2 hk
    have hdd : (b.drop (i + 2)).drop b[i + 1].toNat = b.drop (i + 2 + b[i + 1].toNat) := by rw [List.drop_drop]
    rw [hdd] at hst
    have ht : ((i : Int) + 2 + b[i + 1].toNat).toNat = i + 2 + b[i + 1].toNat := by omega
    have ht2 : ((i : Int) + 2).toNat = i + 2 := by omega
    have htd : (b.take (i + 2 + b[i + 1].toNat)).drop (i + 2) = (b.drop (i + 2)).take b[i + 1].toNat := by rw [List.drop_take]; congr 1; omega
    simp (config := sc) (disch := try exact dd) [std, e0, e4, o4, e5, k1, k2, hn1, ht, ht2, htd]
    exact nxt_of (out ++ [⟨b[i].toNat, (b.drop (i + 2)).take b[i + 1].toNat⟩], i + 2 + b[i + 1].toNat) ⟨by simp only; omega, by simp; omega, by
     intro o ho
     rcases List.mem_append.1 ho with h | h
     ·exact hod o h
     ·simp at h
      subst h
      simp
      omega, hst, by simp (config := sc) (disch := try exact dd) [std, e0, e4, o4, e5, htd]⟩ (by simp only; omega)
 ·have k6 : ¬ (i : Int) < b.length := by omega
  have hd : b.drop i = [] := by simp; omega
  have h1 : partsE b = 0 := by simp [partsE, h0, hp, hd, partsS_nil]
  have h2 : partsV b = out := by simp [partsV, h0, hp, hd, partsS_nil]
  simp (config := sc) (disch := try exact dd) [std, e0, e4, o4, e5, h1, h2, k6]
def loI (b : List UInt8) (i : Nat) (S : PS) : Prop :=
 i ≤ (partsV b).length ∧ (∀ j (hj : j < i) (hl : j < (partsV b).length), (partsV b)[j].code ≠ 5) ∧ S.t 17 = .d (.slice ((partsV b).map Opt.d)) ∧ S.t 18 = .d (.int .i64 (partsV b).length) ∧ S.t 19 = .d (.int .i64 i)
theorem find_at {l : List Opt} {c : Int} {i : Nat} (hi : i < l.length) (hn : ∀ j (hj : j < i) (hl : j < l.length), l[j].code ≠ c) (hc : l[i].code = c) : (l.find? fun o => decide (o.code = c)) = some l[i] := by
 rw [List.find?_eq_some_iff_getElem]
 exact ⟨by simpa using hc, i, hi, rfl, fun j hj => by simpa using hn j hj (by omega)⟩
theorem find_noR {l : List Opt} {c : Int} {i : Nat} (hi : ¬ i < l.length) (hn : ∀ j (hj : j < i) (hl : j < l.length), l[j].code ≠ c) : (l.find? fun o => decide (o.code = c)) = none := by
 rw [List.find?_eq_none]
 intro o ho
 obtain ⟨j, hj, rfl⟩ := List.mem_iff_getElem.1 ho
 simpa using hn j (by omega) hj
theorem relayLink (b : List UInt8) (hb : b.length ≤ 100000) : Holds Tryz.prog 175 [.d (.slice (b.map byteD))] (.tup [.d (.int .i64 ((linkS b).getD 0)), .d (.bool (linkS b).isSome)]) (fun _ => false) := by
 refine Holds.by (by kernel_rfl) Tryz.func175 (by kernel_rfl) rfl [] (by simp) (by kernel_rfl) (by kernel_rfl) rfl ?_
 conv in ccs _ => cbv
 simp (config := sc) (disch := try exact dd) [std]
 refine oc (relayParts b hb) ?_
 by_cases hE : partsE b = 0
 ·have hsz := partsV_sized b
  have hs := hsz.1
  simp (config := sc) (disch := try exact dd) [std, hE]
  refine lp (loI b) (fun i => (partsV b).length - i) 0 ⟨by omega, by simp, by simp⟩ ?_
  rintro i S ⟨hi, hn, e17, e18, e19⟩
  by_cases hlt : i < (partsV b).length
  ·have k6 : (i : Int) < (partsV b).length := by omega
   have hz := sized_at hsz hlt
   by_cases hc : (partsV b)[i].code = 5
   ·have hfa := find_at hlt hn hc
    by_cases h4 : (partsV b)[i].data.length = 4
    ·have hl : linkS b = some (valB (partsV b)[i].data) := by simp only [linkS, hfa, if_pos h4]
     have hgE : getE (partsV b)[i].data 0 4 = 0 := by simp [getE, h4]
     have hgV : getV (partsV b)[i].data 0 4 = valB (partsV b)[i].data := by
      simp only [getV, hgE, if_true]
      simp [h4, List.take_of_length_le]
     have hg := codeGet (partsV b)[i].data 0 4 (by omega)
     rw [hgE, hgV] at hg
     have h4' : ((partsV b)[i].data.length : Int) = 4 := by omega
     simp (config := sc) (disch := try exact dd) [std, e17, e18, e19, k6, hc]
     refine oc hg ?_
     simp (config := sc) (disch := try exact dd) [std, e17, e18, e19, k6, hc, h4', hl]
    ·have hl : linkS b = none := by simp only [linkS, hfa, if_neg h4]
     have h4' : ¬ ((partsV b)[i].data.length : Int) = 4 := by omega
     simp (config := sc) (disch := try exact dd) [std, e17, e18, e19, k6, hc]
     refine oc (codeGet (partsV b)[i].data 0 4 (by omega)) ?_
     simp (config := sc) (disch := try exact dd) [std, e17, e18, e19, k6, hc, h4', hl]
   ·simp (config := sc) (disch := try exact dd) [std, e17, e18, e19, k6, hc]
    exact nxt_of (i + 1) ⟨by omega, fun j hj hl => by
     rcases Nat.lt_or_ge j i with h | h
     ·exact hn j h hl
     ·have : j = i := by omega
      subst this
      exact hc, by simp (config := sc) (disch := try exact dd) [std, e17, e18, e19]⟩ (by omega)
  ·have k6 : ¬ (i : Int) < (partsV b).length := by omega
   have hl : linkS b = none := by simp only [linkS, find_noR hlt hn]
   simp (config := sc) (disch := try exact dd) [std, e17, e18, e19, k6, hl]
 ·have hv : partsV b = [] := by
   unfold partsE at hE
   unfold partsV
   split
   ·rfl
   ·rename_i h
    rw [if_neg h] at hE
    cases hp : partsS b with
    | none => rfl
    | some l => simp [hp] at hE
  have hl : linkS b = none := by simp [linkS, hv]
  simp (config := sc) (disch := try exact dd) [std, hE, hl]
def rlI (b : List UInt8) (i : Nat) (S : PS) : Prop :=
 i ≤ (partsV b).length ∧ (∀ j (hj : j < i) (hl : j < (partsV b).length), (partsV b)[j].code ≠ 5) ∧ S.t 4 = .d (.slice ((partsV b).map Opt.d)) ∧ S.t 6 = .d (.int .i64 i)
theorem ref06Link (b : List UInt8) (hb : b.length ≤ 100000) : Holds Tryz.prog 116 [.d (.slice (b.map byteD))] (.tup [.d (.int .i64 ((linkS b).getD 0)), .d (.bool (linkS b).isSome)]) (fun _ => false) := by
 refine Holds.by (by kernel_rfl) Tryz.func116 (by kernel_rfl) rfl [] (by simp) (by kernel_rfl) (by kernel_rfl) rfl ?_
 conv in ccs _ => cbv
 have hsz := partsV_sized b
 have hs := hsz.1
 simp (config := sc) (disch := try exact dd) [std]
 refine oc (ref06Parts b hb) ?_
 simp (config := sc) (disch := try exact dd) [std]
 refine lp (rlI b) (fun i => (partsV b).length - i) 0 ⟨by omega, by simp, by simp⟩ ?_
 rintro i S ⟨hi, hn, e4, e6⟩
 by_cases hlt : i < (partsV b).length
 ·have k6 : (i : Int) < (partsV b).length := by omega
  have hz := sized_at hsz hlt
  by_cases hc : (partsV b)[i].code = 5
  ·have hfa := find_at hlt hn hc
   by_cases h4 : (partsV b)[i].data.length = 4
   ·have hl : linkS b = some (valB (partsV b)[i].data) := by simp only [linkS, hfa, if_pos h4]
    have h4' : ((partsV b)[i].data.length : Int) = 4 := by omega
    simp (config := sc) (disch := try exact dd) [std, e4, e6, k6, hc, h4']
    refine oc (ref02Value (partsV b)[i].data (by omega)) ?_
    simp (config := sc) (disch := try exact dd) [std, hl]
   ·have hl : linkS b = none := by simp only [linkS, hfa, if_neg h4]
    have h4' : ¬ ((partsV b)[i].data.length : Int) = 4 := by omega
    simp (config := sc) (disch := try exact dd) [std, e4, e6, k6, hc, h4', hl]
  ·simp (config := sc) (disch := try exact dd) [std, e4, e6, k6, hc]
   exact nxt_of (i + 1) ⟨by omega, fun j hj hl => by
    rcases Nat.lt_or_ge j i with h | h
    ·exact hn j h hl
    ·have : j = i := by omega
     subst this
     exact hc, by simp (config := sc) (disch := try exact dd) [std, e4, e6]⟩ (by omega)
 ·have k6 : ¬ (i : Int) < (partsV b).length := by omega
  have hl : linkS b = none := by simp only [linkS, find_noR hlt hn]
  simp (config := sc) (disch := try exact dd) [std, e4, e6, k6, hl]
end Go.Proofs.YtnkmlhlegndlhaaGreat
