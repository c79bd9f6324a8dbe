/- Disks: what the document's layer 8 answers, second part: what is told, and what is done to names. -/
import Derived.Test.YtkbidfohcanijaaGreatDiskR
namespace Go.Proofs.YtkbidfohcanijaaGreat
open BoEng Go
set_option maxRecDepth 100000
attribute [-simp] List.map_take List.map_drop List.length_flatMap
set_option linter.unusedSimpArgs false
set_option linter.unusedVariables false

def rnO (l : List Ent) (w : List Int) (i : Nat) (S : PS) : Prop :=
  i ≤ l.length ∧ S.t 0 = .d (.slice (l.map Ent.d)) ∧ S.t 1 = .d (.slice (w.map intD)) ∧ S.t 6 = .d (.int .i64 i) ∧ S.t 5 = .d (.slice (((l.take i).map (renE w)).map Ent.d)) ∧ S.own (.t 5 0) = true
def rnJ (l : List Ent) (w : List Int) (i j : Nat) (S : PS) : Prop :=
  j ≤ w.length ∧ S.t 0 = .d (.slice (l.map Ent.d)) ∧ S.t 1 = .d (.slice (w.map intD)) ∧ S.t 6 = .d (.int .i64 i) ∧ S.t 7 = .d (.int .i64 j) ∧
    S.t 5 = .d (.slice (((l.take i).map (renE w) ++ (if posC w (l.getD i default).file < j then [renE w (l.getD i default)] else [])).map Ent.d)) ∧ S.own (.t 5 0) = true
theorem ref08Renumbered (l : List Ent) (w : List Int) (hl : l.length ≤ 100000) (hw : w.length ≤ 100000) (hn : w.Nodup) (hin : ∀ e ∈ l, e.file ∈ w) : Holds Tryz.prog 108 [.d (.slice (l.map Ent.d)), .d (.slice (w.map intD))] (.d (.slice ((l.map (renE w)).map Ent.d))) (fun _ => false) := by
  refine Holds.by (by kernel_rfl) Tryz.func108 (by kernel_rfl) rfl [30] (by simp) (by kernel_rfl) (by kernel_rfl) rfl ?_
  conv in ccs _ => cbv
  simp (config := sc) (disch := first | exact dd | fail) [std]
  refine lp (rnO l w) (fun i => l.length - i) 0 ⟨by omega, by simp⟩ ?_
  rintro i S ⟨hi, e0, e1, e6, e5, o5⟩
  by_cases hlt : i < l.length
  · have k6 : (i : Int) < l.length := by omega
    have hm := hin _ (List.getElem_mem hlt)
    have hrg := posC_rng hm
    have hat := posC_at hm
    have hgd : l.getD i default = l[i] := by rw [List.getD_eq_getElem?_getD, List.getElem?_eq_getElem hlt, Option.getD_some]
    simp (config := sc) (disch := first | exact dd | fail) [std, e0, e1, e5, e6, o5, k6]
    refine lp (rnJ l w i) (fun j => w.length - j) 0 ⟨by omega, by simp (config := sc) (disch := first | exact dd | fail) [std, e0], by simp (config := sc) (disch := first | exact dd | fail) [std, e1], by simp (config := sc) (disch := first | exact dd | fail) [std, e6], by simp, by rw [if_neg (by rw [hgd]; omega), List.append_nil]; simp (config := sc) (disch := first | exact dd | fail) [std, e5], by simp (config := sc) (disch := first | exact dd | fail) [std, o5]⟩ ?_
    clear e0 e1 e6 e5 o5 S
    rintro j S ⟨hj, e0, e1, e6, e7, e5, o5⟩
    rw [hgd] at e5
    by_cases hlj : j < w.length
    · have k7 : (j : Int) < w.length := by omega
      by_cases hc : w[j] = l[i].file
      · have hp : posC w l[i].file = j := by
          rw [← hc]
          unfold posC
          rw [hn.idxOf_getElem]
        have hpn : ¬ posC w l[i].file < (j : Int) := by omega
        rw [if_neg hpn, List.append_nil] at e5
        simp (config := sc) (disch := first | exact dd | fail) [std, e0, e1, e5, e6, e7, o5, k6, k7, hc, intD]
        exact nxt_of (j + 1) ⟨by omega, by simp (config := sc) (disch := first | exact dd | fail) [std, e0], by simp (config := sc) (disch := first | exact dd | fail) [std, e1], by simp (config := sc) (disch := first | exact dd | fail) [std, e6], by simp, by
          rw [hgd, if_pos (by omega), List.map_append]
          simp (config := sc) (disch := first | exact dd | fail) [std, Ent.d, renE, hp], by simp (config := sc) (disch := first | exact dd | fail) [std]⟩ (by omega)
      · have hp : posC w l[i].file ≠ j := by
          intro e
          rw [e] at hat
          simp only [Int.toNat_natCast, List.getElem?_eq_getElem hlj, Option.some.injEq] at hat
          exact hc hat
        have hif : (if posC w l[i].file < ((j + 1 : Nat) : Int) then [renE w l[i]] else []) = if posC w l[i].file < (j : Int) then [renE w l[i]] else [] := by
          by_cases h : posC w l[i].file < (j : Int)
          · rw [if_pos h, if_pos (by omega)]
          · rw [if_neg h, if_neg (by omega)]
        simp (config := sc) (disch := first | exact dd | fail) [std, e0, e1, e5, e6, e7, o5, k6, k7, hc, intD]
        exact nxt_of (j + 1) ⟨by omega, by simp (config := sc) (disch := first | exact dd | fail) [std, e0], by simp (config := sc) (disch := first | exact dd | fail) [std, e1], by simp (config := sc) (disch := first | exact dd | fail) [std, e6], by simp, by
          rw [hgd, hif]
          simp (config := sc) (disch := first | exact dd | fail) [std, e5], by simp (config := sc) (disch := first | exact dd | fail) [std, o5]⟩ (by omega)
    · have k7 : ¬ (j : Int) < w.length := by omega
      rw [if_pos (by omega)] at e5
      have ht : (l.take (i + 1)).map (renE w) = (l.take i).map (renE w) ++ [renE w l[i]] := by
        rw [List.take_succ_eq_append_getElem hlt, List.map_append]
        rfl
      simp (config := sc) (disch := first | exact dd | fail) [std, e0, e1, e5, e6, e7, o5, k6, k7]
      exact nxt_of (i + 1) ⟨by omega, by simp (config := sc) (disch := first | exact dd | fail) [std, e0], by simp (config := sc) (disch := first | exact dd | fail) [std, e1], by simp, by rw [ht]; simp (config := sc) (disch := first | exact dd | fail) [std, e5], by simp (config := sc) (disch := first | exact dd | fail) [std, o5]⟩ (by omega)
  · have k6 : ¬ (i : Int) < l.length := by omega
    have : l.take i = l := List.take_of_length_le (by omega)
    rw [this] at e5
    simp (config := sc) (disch := first | exact dd | fail) [std, e0, e1, e5, e6, o5, k6]

def roI (k : Dk) (w : List Int) (i : Nat) (S : PS) : Prop :=
  i ≤ w.length ∧ S.t 1 = .cptr (cells k.d) ∧ S.t 2 = .ptr (FO + 2) 1 0 ∧ S.t 3 = .d (.slice (w.map intD)) ∧ S.t 4 = .ptr (FO + 4) 1 0 ∧ S.t 5 = .d (.int .i64 i) ∧ S.fo = FO ∧ S.gen (FO + 2) = 1 ∧ S.box (FO + 2) = [.d (.slice []), .d (.slice []), .d (.slice [])] ∧
    S.gen (FO + 4) = 1 ∧ S.box (FO + 4) = [.d (.slice (((w.take i).map (fileAt k.files)).map FileD.d)), .d (.slice []), .d (.slice [])] ∧ S.own (.b (FO + 4) 0) = true
theorem ref08Ordered (k : Dk) (hk : sizedK k) (hin : inD k) (hl : k.now.length + k.kept.length ≤ 100000) : Holds Tryz.prog 100 [.d k.d] (.d (orderedS k).d) (fun _ => false) := by
  refine Holds.by (by kernel_rfl) Tryz.func100 (by kernel_rfl) rfl [20001, 15] (by simp) (by kernel_rfl) (by kernel_rfl) rfl ?_
  conv in ccs _ => cbv
  have qc := ref08Came k hk hl
  have hcl := came_len (k.now ++ k.kept)
  simp only [List.length_append] at hcl
  have hnd := came_nodup (k.now ++ k.kept)
  have q1 := ref08Renumbered k.now (cameS (k.now ++ k.kept)) hk.2.1.1 (by omega) hnd (fun e he => mem_came.2 ⟨e, by simp [he], rfl⟩)
  have q2 := ref08Renumbered k.kept (cameS (k.now ++ k.kept)) hk.2.2.1 (by omega) hnd (fun e he => mem_came.2 ⟨e, by simp [he], rfl⟩)
  have hrng : ∀ x ∈ cameS (k.now ++ k.kept), 0 ≤ x ∧ x < k.files.length := by
    intro x hx
    obtain ⟨e, he, rfl⟩ := mem_came.1 hx
    rcases List.mem_append.1 he with h | h
    · exact hin.1 e h
    · exact hin.2 e h
  have hd : (orderedS k).d = .agg [.slice (((cameS (k.now ++ k.kept)).map (fileAt k.files)).map FileD.d), .slice ((k.now.map (renE (cameS (k.now ++ k.kept)))).map Ent.d), .slice ((k.kept.map (renE (cameS (k.now ++ k.kept)))).map Ent.d)] := rfl
  rw [hd]
  clear hd
  have hfl := hk.1.1
  generalize cameS (k.now ++ k.kept) = w at *
  simp (config := sc) (disch := first | exact dd | fail) [std]
  refine o_call rfl rfl qc rfl rfl ?_
  simp (config := sc) (disch := first | exact dd | fail) [std]
  refine lp (roI k w) (fun i => w.length - i) 0 ⟨by omega, by simp, by simp, by simp, by simp, by simp, by simp, by simp, by simp, by simp, by simp, by simp⟩ ?_
  rintro i S ⟨hi, e1, e2, e3, e4, e5, efo, g2, b2, g4, b4, o4⟩
  by_cases hlt : i < w.length
  · have k6 : (i : Int) < w.length := by omega
    obtain ⟨r0, r1⟩ := hrng _ (List.getElem_mem hlt)
    obtain ⟨n, hn⟩ := Int.eq_ofNat_of_zero_le r0
    have hnl : n < k.files.length := by omega
    have hfa : fileAt k.files w[i] = k.files[n] := by rw [hn]; simp [fileAt, List.getD_eq_getElem?_getD, hnl]
    have ht : (w.take (i + 1)).map (fileAt k.files) = (w.take i).map (fileAt k.files) ++ [k.files[n]] := by
      rw [List.take_succ_eq_append_getElem hlt, List.map_append, ← hfa]
      rfl
    simp (config := sc) (disch := first | exact dd | fail) [std, e1, e2, e3, e4, e5, efo, g2, b2, g4, b4, o4, k6, intD, hn]
    exact nxt_of (i + 1) ⟨by omega, by simp (config := sc) (disch := first | exact dd | fail) [std, e1], by simp (config := sc) (disch := first | exact dd | fail) [std, e2], by simp (config := sc) (disch := first | exact dd | fail) [std, e3], by simp (config := sc) (disch := first | exact dd | fail) [std, e4], by simp, by simp (config := sc) (disch := first | exact dd | fail) [std, efo], by simp (config := sc) (disch := first | exact dd | fail) [std, g2, efo], by simp (config := sc) (disch := first | exact dd | fail) [std, b2, efo], by simp (config := sc) (disch := first | exact dd | fail) [std, g4, efo], by rw [ht]; simp (config := sc) (disch := first | exact dd | fail) [std, b4, efo, FileD.d], by simp (config := sc) (disch := first | exact dd | fail) [std, o4, efo]⟩ (by omega)
  · have k6 : ¬ (i : Int) < w.length := by omega
    have : w.take i = w := List.take_of_length_le (by omega)
    rw [this] at b4
    simp (config := sc) (disch := first | exact dd | fail) [std, e1, e2, e3, e4, e5, efo, g2, b2, g4, b4, o4, k6]
    refine o_call rfl rfl q1 rfl rfl ?_
    simp (config := sc) (disch := first | exact dd | fail) [std, e1, e2, e3, e4, e5, efo, g2, b2, g4, b4, o4]
    refine o_call rfl rfl q2 rfl rfl ?_
    simp (config := sc) (disch := first | exact dd | fail) [std, e1, e2, e3, e4, e5, efo, g2, b2, g4, b4, o4]

def rfnI (l : List Ent) (name : List UInt8) (i : Nat) (S : PS) : Prop :=
  i ≤ l.length ∧ (∀ j (h : j < l.length), j < i → l[j].name ≠ name) ∧ S.t 0 = .d (.slice (l.map Ent.d)) ∧ S.t 1 = .d (.str name) ∧ S.t 5 = .d (.int .i64 i)
def findI (l : List Ent) (name : List UInt8) : Int := match findK l name with | some x => x | none => -1
theorem find_first {l : List Ent} {name : List UInt8} {i : Nat} (h : i < l.length) (hn : ∀ j (h : j < l.length), j < i → l[j].name ≠ name) (hx : l[i].name = name) : findK l name = some l[i].file := by
  unfold findK
  have : (l.find? fun e => decide (e.name = name)) = some l[i] := by
    rw [List.find?_eq_some_iff_getElem]
    exact ⟨by simpa using hx, i, h, rfl, fun j hj => by simpa using hn j (by omega) hj⟩
  rw [this]
  rfl
theorem find_no {l : List Ent} {name : List UInt8} (hn : ∀ j (h : j < l.length), l[j].name ≠ name) : findK l name = none := by
  unfold findK
  have : (l.find? fun e => decide (e.name = name)) = none := by
    rw [List.find?_eq_none]
    intro e he
    obtain ⟨j, hj, rfl⟩ := List.mem_iff_getElem.1 he
    simpa using hn j hj
  rw [this]
  rfl
theorem ref08Find (l : List Ent) (name : List UInt8) (hl : l.length ≤ 1000000) : Holds Tryz.prog 73 [.d (.slice (l.map Ent.d)), .d (.str name)] (.d (.int .i64 (findI l name))) (fun _ => false) := by
  refine Holds.by (by kernel_rfl) Tryz.func73 (by kernel_rfl) rfl [] (by simp) (by kernel_rfl) (by kernel_rfl) rfl ?_
  conv in ccs _ => cbv
  simp (config := sc) (disch := first | exact dd | fail) [std]
  refine lp (rfnI l name) (fun i => l.length - i) 0 ⟨by omega, by simp, by simp⟩ ?_
  rintro i S ⟨hi, hn, e0, e1, e5⟩
  by_cases hlt : i < l.length
  · have k6 : (i : Int) < l.length := by omega
    by_cases hc : l[i].name = name
    · have hr : findI l name = l[i].file := by simp [findI, find_first hlt hn hc]
      simp (config := sc) (disch := first | exact dd | fail) [std, e0, e1, e5, k6, hc, hr]
    · simp (config := sc) (disch := first | exact dd | fail) [std, e0, e1, e5, k6, hc]
      exact nxt_of (i + 1) ⟨by omega, fun j h hj => by
        by_cases e : j = i
        · subst e; exact hc
        · exact hn j h (by omega), by simp (config := sc) (disch := first | exact dd | fail) [std, e0, e1]⟩ (by omega)
  · have k6 : ¬ (i : Int) < l.length := by omega
    have hr : findI l name = -1 := by simp [findI, find_no fun j hj => hn j hj (by omega)]
    simp (config := sc) (disch := first | exact dd | fail) [std, e0, e1, e5, k6, hr]

theorem ref08Get (k : Dk) (hk : okK k) (name : List UInt8) : Holds Tryz.prog 42 [.d k.d, .d (.str name)] (.tup [.d (.slice ((getS k name).1.map byteD)), .d (.int .i64 (getS k name).2)]) (fun _ => false) := by
  refine Holds.by (by kernel_rfl) Tryz.func42 (by kernel_rfl) rfl [] (by simp) (by kernel_rfl) (by kernel_rfl) rfl ?_
  conv in ccs _ => cbv
  obtain ⟨hk1, hk2⟩ := hk
  have q := ref08Good k hk1 (by omega)
  have hrg := good_right k
  unfold getS
  generalize goodK k = d at *
  have hll := right_lens hrg
  have q2 := ref08Find d.now name (by omega)
  unfold findI at q2
  have hdd : d.d = .agg [.slice (d.files.map FileD.d), .slice (d.now.map Ent.d), .slice (d.kept.map Ent.d)] := rfl
  cases hx : findK d.now name with
  | none =>
    rw [hx] at q2
    simp (config := sc) (disch := first | exact dd | fail) [std, Dk.d]
    refine o_call rfl rfl q rfl rfl ?_
    simp (config := sc) (disch := first | exact dd | fail) [std, hdd]
    refine o_call rfl rfl q2 rfl rfl ?_
    simp (config := sc) (disch := first | exact dd | fail) [std]
  | some x =>
    rw [hx] at q2
    have hrx := find_rng hrg hx
    obtain ⟨n, rfl⟩ := Int.eq_ofNat_of_zero_le hrx.1
    have hnl : n < d.files.length := by omega
    have hfa : fileAt d.files (n : Int) = d.files[n] := by simp [fileAt, List.getD_eq_getElem?_getD, hnl]
    simp only [hfa]
    simp (config := sc) (disch := first | exact dd | fail) [std, Dk.d]
    refine o_call rfl rfl q rfl rfl ?_
    simp (config := sc) (disch := first | exact dd | fail) [std, hdd]
    refine o_call rfl rfl q2 rfl rfl ?_
    simp (config := sc) (disch := first | exact dd | fail) [std]

def rwI (l : List Ent) (name : List UInt8) (i : Nat) (S : PS) : Prop :=
  i ≤ l.length ∧ S.t 0 = .d (.slice (l.map Ent.d)) ∧ S.t 1 = .d (.str name) ∧ S.t 6 = .d (.int .i64 i) ∧ S.t 5 = .d (.slice ((dropK (l.take i) name).map Ent.d)) ∧ S.own (.t 5 0) = true
theorem ref08Without (l : List Ent) (name : List UInt8) (hl : l.length ≤ 100000) : Holds Tryz.prog 102 [.d (.slice (l.map Ent.d)), .d (.str name)] (.d (.slice ((dropK l name).map Ent.d))) (fun _ => false) := by
  refine Holds.by (by kernel_rfl) Tryz.func102 (by kernel_rfl) rfl [20] (by simp) (by kernel_rfl) (by kernel_rfl) rfl ?_
  conv in ccs _ => cbv
  simp (config := sc) (disch := first | exact dd | fail) [std]
  refine lp (rwI l name) (fun i => l.length - i) 0 ⟨by omega, by simp [dropK]⟩ ?_
  rintro i S ⟨hi, e0, e1, e6, e5, o5⟩
  by_cases hlt : i < l.length
  · have k6 : (i : Int) < l.length := by omega
    have ht : dropK (l.take (i + 1)) name = dropK (l.take i) name ++ (if l[i].name = name then [] else [l[i]]) := by
      unfold dropK
      rw [List.take_succ_eq_append_getElem hlt, List.filter_append]
      congr 1
      by_cases e : l[i].name = name <;> simp [e]
    have hle : (dropK (l.take i) name).length ≤ 100000 := by
      have := drop_len (l.take i) name
      simp only [List.length_take] at this
      omega
    by_cases hc : l[i].name = name
    · rw [if_pos hc, List.append_nil] at ht
      simp (config := sc) (disch := first | exact dd | fail) [std, e0, e1, e5, e6, o5, k6, hc]
      exact nxt_of (i + 1) ⟨by omega, by simp (config := sc) (disch := first | exact dd | fail) [*, std, ht]⟩ (by omega)
    · rw [if_neg hc] at ht
      simp (config := sc) (disch := first | exact dd | fail) [std, e0, e1, e5, e6, o5, k6, hc]
      exact nxt_of (i + 1) ⟨by omega, by simp (config := sc) (disch := first | exact dd | fail) [*, std, ht, Ent.d]⟩ (by omega)
  · have k6 : ¬ (i : Int) < l.length := by omega
    have : l.take i = l := List.take_of_length_le (by omega)
    simp (config := sc) (disch := first | exact dd | fail) [std, e0, e1, e5, e6, o5, k6, this]

end Go.Proofs.YtkbidfohcanijaaGreat
