/- Disks: what the program's disk answers, third part: disks put in order. -/
import Derived.Test.YtkbidfohcanijaaGreatDiskQ
namespace Go.Proofs.YtkbidfohcanijaaGreat
open BoEng Go
set_option maxRecDepth 100000
attribute [-simp] List.map_take List.map_drop List.length_flatMap
set_option linter.unusedSimpArgs false
set_option linter.unusedVariables false

def intD (x : Int) : DV := .int .i64 x
@[simp] theorem cells_int (x : Int) : cells (intD x) = [.int .i64 x] := rfl
/-- Files, as a box. -/
def fBox (fs : List FileD) : List PV := (flat (fs.map FileD.d)).map .d
def oBox (nf gf : Nat) (fs : List FileD) (now kept : List Ent) (old : List FileD) (was : List Int) : List PV :=
  [.bsl nf gf fs.length 2 true, .d (.slice (now.map Ent.d)), .d (.slice (kept.map Ent.d)), .d (.slice (old.map FileD.d)), .d (.slice (was.map intD))]
def fU (nf gf : Nat) (fs : List FileD) : Upd := ⟨nf, gf, fBox fs, fun k => k % 2 == 0 && decide (k < 2 * fs.length)⟩
def oU (no g nf gf : Nat) (fs : List FileD) (now kept : List Ent) (old : List FileD) (was : List Int) : Upd := ⟨no, g, oBox nf gf fs now kept old was, fun k => k == 4⟩
@[simp] theorem fU_n {nf gf : Nat} {fs : List FileD} : (fU nf gf fs).n = nf := rfl
@[simp] theorem oU_n {no g nf gf : Nat} {fs : List FileD} {now kept : List Ent} {old : List FileD} {was : List Int} : (oU no g nf gf fs now kept old was).n = no := rfl
theorem fBox_nil : fBox [] = [] := rfl
theorem fBox_cons (f : FileD) (fs : List FileD) : fBox (f :: fs) = .d (.slice (f.data.map byteD)) :: .d (.int .i64 f.safe) :: fBox fs := rfl
theorem fBox_app (fs gs : List FileD) : fBox (fs ++ gs) = fBox fs ++ fBox gs := by simp [fBox, flat_append]
theorem fBox_all (fs : List FileD) : toD (fBox fs) = some (flat (fs.map FileD.d)) := by unfold fBox; exact toD_m
theorem fBox_thaw {fs : List FileD} {n : Nat} (h : fs.length = n) : toD ((fBox fs).take (n * 2)) = some (flat (fs.map FileD.d)) := by
  have : ∀ fs : List FileD, (fBox fs).length = 2 * fs.length := by
    intro fs
    induction fs with
    | nil => rfl
    | cons f fs ih => rw [fBox_cons]; simp [ih]; omega
  rw [List.take_of_length_le (by rw [this]; omega), fBox_all]
theorem fBox_chunk {fs : List FileD} {n : Nat} (h : fs.length = n) : chunk 2 true n (flat (fs.map FileD.d)) = fs.map FileD.d := by
  subst h
  induction fs with
  | nil => rfl
  | cons f fs ih =>
    rw [List.map_cons, flat_cons, List.length_cons, chunk]
    simp only [cells_file, List.cons_append, List.nil_append, List.take_succ_cons, List.take_zero, List.drop_succ_cons, List.drop_zero, if_true, ih]
    rfl
theorem fBox_len (fs : List FileD) : (fBox fs).length = 2 * fs.length := by
  induction fs with
  | nil => rfl
  | cons f fs ih => rw [fBox_cons]; simp [ih]; omega

def dnB (fo no g nf gf : Nat) (fs : List FileD) (now kept : List Ent) (old : List FileD) (was : List Int) (S : PS) : Prop :=
  S.fo = fo ∧ S.gen no = g ∧ S.box no = oBox nf gf fs now kept old was ∧ S.gen nf = gf ∧ S.box nf = fBox fs ∧ S.own (.b no 4) = true ∧ ∀ k, (k % 2 == 0 && decide (k < 2 * fs.length)) = true → S.own (.b nf k) = true
def dnuI (fo no g nf gf : Nat) (fs : List FileD) (now kept : List Ent) (old : List FileD) (was : List Int) (x : Int) (i : Nat) (S : PS) : Prop :=
  i ≤ was.length ∧ (∀ j (h : j < was.length), j < i → was[j] ≠ x) ∧ S.t 0 = .ptr no g 0 ∧ S.t 1 = .d (.int .i64 x) ∧ S.t 11 = .d (.slice (was.map intD)) ∧ S.t 12 = .d (.int .i64 was.length) ∧ S.t 13 = .d (.int .i64 i) ∧ dnB fo no g nf gf fs now kept old was S
theorem posC_first {was : List Int} {x : Int} {i : Nat} (h : i < was.length) (hn : ∀ j (h : j < was.length), j < i → was[j] ≠ x) (hx : was[i] = x) : posC was x = i := by
  unfold posC
  congr 1
  induction was generalizing i with
  | nil => simp at h
  | cons a w ih =>
    cases i with
    | zero => simp at hx; subst hx; simp
    | succ i =>
      have h0 := hn 0 (by simp) (by omega)
      simp at h0
      rw [List.idxOf_cons, Bool.cond_eq_ite, if_neg (by simpa using h0), ih (i := i) (by simpa using h) (fun j hj hji => by have := hn (j + 1) (by simpa using hj) (by omega); simpa using this) (by simpa using hx)]
theorem diskNumber1 (no g nf gf : Nat) {fo : Nat} {gl : Nat → Nat} (hno : no < fo) (hnf : nf < fo) (hne : no ≠ nf) (hg : 0 < g) (hgf : 0 < gf) (x : Int) (fs : List FileD) (now kept : List Ent) (old : List FileD) (was : List Int) (hx : x ∈ was) (hw : was.length ≤ 100000) :
    Meets Tryz.prog fo gl 87 [.ptr no g 0, .d (.int .i64 x)] [oU no g nf gf fs now kept old was, fU nf gf fs] (.d (.int .i64 (posC was x))) (fun _ => false) [oU no g nf gf fs now kept old was, fU nf gf fs] := by
  refine Meets.by (by kernel_rfl) Tryz.func87 (by kernel_rfl) rfl [27, 70045, 80052, 10053, 60053, 10054, 30054, 80054] (by simp) (by kernel_rfl) (by kernel_rfl) (by simp [namesIn, namesL, hg, hgf, oU, fU, oBox, fBox]) (by simp [namesIn, namesL, hg, hgf, oU, fU, oBox, fBox]) (by simp [hg, hgf, oU, fU, oBox, fBox]) ?_
  conv in ccs _ => cbv
  have hne' : nf ≠ no := fun e => hne e.symm
  have hk1 : ∀ k, (no = fo + k) = False := fun k => by simp; omega
  have hk2 : ∀ k, (fo + k = no) = False := fun k => by simp; omega
  have hk3 : ∀ k, (nf = fo + k) = False := fun k => by simp; omega
  have hk4 : ∀ k, (fo + k = nf) = False := fun k => by simp; omega
  simp (config := sc) (disch := first | exact dd | fail) [std, oU, fU, oBox]
  refine lp (dnuI fo no g nf gf fs now kept old was x) (fun i => was.length - i) 0 ⟨by omega, by simp, by simp (config := sc) (disch := first | exact dd | fail) [std], by simp (config := sc) (disch := first | exact dd | fail) [std], by simp (config := sc) (disch := first | exact dd | fail) [std], by simp (config := sc) (disch := first | exact dd | fail) [std], by simp (config := sc) (disch := first | exact dd | fail) [std], by simp (config := sc) (disch := first | exact dd | fail) [std, dnB, hne, hne', oBox]⟩ ?_
  rintro i S ⟨hi, hn, e0, e1, e11, e12, e13, hB⟩
  have hlt : i < was.length := by
    rcases Nat.lt_or_ge i was.length with h | h
    · exact h
    · obtain ⟨j, hj, e⟩ := List.mem_iff_getElem.1 hx
      exact absurd e (hn j hj (by omega))
  have k6 : (i : Int) < was.length := by omega
  by_cases hc : was[i] = x
  · have hp := posC_first hlt hn hc
    obtain ⟨efo, g1, b1, g2, b2, o1, o2⟩ := hB
    simp (config := sc) (disch := first | exact dd | fail) [std, e0, e1, e11, e12, e13, k6, hc, hp, oU, fU, oBox, g1, b1, g2, b2, intD]
    refine ⟨o1, fun k h1 h2 => o2 k (by simp [h1, h2])⟩
  · simp (config := sc) (disch := first | exact dd | fail) [std, e0, e1, e11, e12, e13, k6, hc, intD]
    exact nxt_of (i + 1) ⟨by omega, fun j h hj => by
      by_cases e : j = i
      · subst e; exact hc
      · exact hn j h (by omega), by simp (config := sc) (disch := first | exact dd | fail) [std, e0], by simp (config := sc) (disch := first | exact dd | fail) [std, e1], by simp (config := sc) (disch := first | exact dd | fail) [std, e11], by simp (config := sc) (disch := first | exact dd | fail) [std, e12], by simp (config := sc) (disch := first | exact dd | fail) [std], by
      obtain ⟨efo, g1, b1, g2, b2, o1, o2⟩ := hB
      exact ⟨by simp (config := sc) (disch := first | exact dd | fail) [std, efo], by simp (config := sc) (disch := first | exact dd | fail) [std, g1], by simp (config := sc) (disch := first | exact dd | fail) [std, b1], by simp (config := sc) (disch := first | exact dd | fail) [std, g2], by simp (config := sc) (disch := first | exact dd | fail) [std, b2], by simp (config := sc) (disch := first | exact dd | fail) [std, o1], fun k hk => by simp (config := sc) (disch := first | exact dd | fail) [std]; exact o2 k hk⟩⟩ (by omega)
/-- A file that is new gets the next number. -/
theorem diskNumber2 (no g nf gf : Nat) {fo : Nat} {gl : Nat → Nat} (hno : no < fo) (hnf : nf < fo) (hne : no ≠ nf) (hg : 0 < g) (hgf : 0 < gf) (x : Int) (fs : List FileD) (now kept : List Ent) (old : List FileD) (was : List Int) (hx : x ∉ was) (hw : was.length ≤ 100000) (hf : fs.length ≤ 100000) (h0 : 0 ≤ x) (h1 : x < old.length) (hz : (fileAt old x).data.length ≤ 100000) :
    Meets Tryz.prog fo gl 87 [.ptr no g 0, .d (.int .i64 x)] [oU no g nf gf fs now kept old was, fU nf gf fs] (.d (.int .i64 was.length)) (fun _ => false) [oU no g nf (gf + 1) (fs ++ [fileAt old x]) now kept old (was ++ [x]), fU nf (gf + 1) (fs ++ [fileAt old x])] := by
  refine Meets.by (by kernel_rfl) Tryz.func87 (by kernel_rfl) rfl [27, 70045, 80052, 10053, 60053, 10054, 30054, 80054] (by simp) (by kernel_rfl) (by kernel_rfl) (by simp [namesIn, namesL, hg, hgf, oU, fU, oBox, fBox]) (by simp [namesIn, namesL, hg, hgf, oU, fU, oBox, fBox]) (by simp [hg, hgf, oU, fU, oBox, fBox]) ?_
  conv in ccs _ => cbv
  have hne' : nf ≠ no := fun e => hne e.symm
  have hk1 : ∀ k, (no = fo + k) = False := fun k => by simp; omega
  have hk2 : ∀ k, (fo + k = no) = False := fun k => by simp; omega
  have hk3 : ∀ k, (nf = fo + k) = False := fun k => by simp; omega
  have hk4 : ∀ k, (fo + k = nf) = False := fun k => by simp; omega
  simp (config := sc) (disch := first | exact dd | fail) [std, oU, fU, oBox]
  refine lp (dnuI fo no g nf gf fs now kept old was x) (fun i => was.length - i) 0 ⟨by omega, by simp, by simp (config := sc) (disch := first | exact dd | fail) [std], by simp (config := sc) (disch := first | exact dd | fail) [std], by simp (config := sc) (disch := first | exact dd | fail) [std], by simp (config := sc) (disch := first | exact dd | fail) [std], by simp (config := sc) (disch := first | exact dd | fail) [std], by simp (config := sc) (disch := first | exact dd | fail) [std, dnB, hne, hne', oBox]⟩ ?_
  rintro i S ⟨hi, hn, e0, e1, e11, e12, e13, hB⟩
  by_cases hlt : i < was.length
  · have k6 : (i : Int) < was.length := by omega
    have hc : ¬ was[i] = x := fun e => hx (e ▸ List.getElem_mem hlt)
    simp (config := sc) (disch := first | exact dd | fail) [std, e0, e1, e11, e12, e13, k6, hc, intD]
    exact nxt_of (i + 1) ⟨by omega, fun j h hj => by
      by_cases e : j = i
      · subst e; exact hc
      · exact hn j h (by omega), by simp (config := sc) (disch := first | exact dd | fail) [std, e0], by simp (config := sc) (disch := first | exact dd | fail) [std, e1], by simp (config := sc) (disch := first | exact dd | fail) [std, e11], by simp (config := sc) (disch := first | exact dd | fail) [std, e12], by simp (config := sc) (disch := first | exact dd | fail) [std], by
      obtain ⟨efo, g1, b1, g2, b2, o1, o2⟩ := hB
      exact ⟨by simp (config := sc) (disch := first | exact dd | fail) [std, efo], by simp (config := sc) (disch := first | exact dd | fail) [std, g1], by simp (config := sc) (disch := first | exact dd | fail) [std, b1], by simp (config := sc) (disch := first | exact dd | fail) [std, g2], by simp (config := sc) (disch := first | exact dd | fail) [std, b2], by simp (config := sc) (disch := first | exact dd | fail) [std, o1], fun k hk => by simp (config := sc) (disch := first | exact dd | fail) [std]; exact o2 k hk⟩⟩ (by omega)
  · have k6 : ¬ (i : Int) < was.length := by omega
    obtain ⟨efo, g1, b1, g2, b2, o1, o2⟩ := hB
    obtain ⟨n, rfl⟩ := Int.eq_ofNat_of_zero_le h0
    have hnl : n < old.length := by omega
    have hfa : fileAt old (n : Int) = old[n] := by simp [fileAt, List.getD_eq_getElem?_getD, hnl]
    rw [hfa] at hz ⊢
    have hbl : (fBox fs).length = fs.length * 2 := by rw [fBox_len]; omega
    have hfl : flat [DV.agg [DV.slice (old[n].data.map byteD), DV.int .i64 old[n].safe]] = [DV.slice (old[n].data.map byteD), DV.int .i64 old[n].safe] := rfl
    have hbd : (fs.length + 1) * 32 ≤ 140737488355328 := by omega
    simp (config := sc) (disch := first | exact dd | fail) [std, e0, e1, e11, e12, e13, k6, intD, oBox, efo, g1, b1, g2, b2, o1, hk1, hk2, hk3, hk4, hne, hne', chunk, szOk, hbl, hbd, hfl]
    refine ⟨by rw [fBox_app, fBox_cons, fBox_nil], fun k h1 h2 => ?_⟩
    by_cases hk : k < fs.length * 2
    · rw [if_pos hk]
      exact o2 k (by simp; omega)
    · rw [if_neg hk]
      exact ⟨by omega, .inl (by omega)⟩

/-- What the numbers are, along a list. -/
def wasL (was : List Int) (l : List Ent) : List Int := l.foldl (fun w e => addC w e.file) was
theorem wasL_snoc (was : List Int) (l : List Ent) (e : Ent) : wasL was (l ++ [e]) = addC (wasL was l) e.file := by simp [wasL]
theorem wasL_came (l : List Ent) : wasL [] l = cameS l := rfl
theorem wasL_app (was : List Int) (l k : List Ent) : wasL was (l ++ k) = wasL (wasL was l) k := by simp [wasL]
theorem wasL_pre (was : List Int) (l k : List Ent) : ∃ r, wasL was (l ++ k) = wasL was l ++ r := by
  induction k using snoc_ind with
  | h0 => exact ⟨[], by simp⟩
  | hs k e ih =>
    obtain ⟨r, hr⟩ := ih
    rw [← List.append_assoc, wasL_snoc, hr]
    obtain ⟨r2, h2⟩ := addC_pre (wasL was l ++ r) e.file
    exact ⟨r ++ r2, by rw [h2, List.append_assoc]⟩
theorem mem_wasL {was : List Int} {l : List Ent} {x : Int} : x ∈ wasL was l ↔ x ∈ was ∨ ∃ e ∈ l, e.file = x := by
  induction l using snoc_ind with
  | h0 => simp [wasL]
  | hs l e ih =>
    rw [wasL_snoc, mem_addC, ih]
    constructor
    · rintro ((h | ⟨e', h, rfl⟩) | rfl)
      · exact .inl h
      · exact .inr ⟨e', by simp [h], rfl⟩
      · exact .inr ⟨e, by simp, rfl⟩
    · rintro (h | ⟨e', h, rfl⟩)
      · exact .inl (.inl h)
      · rcases List.mem_append.1 h with h | h
        · exact .inl (.inr ⟨e', h, rfl⟩)
        · simp at h; subst h; exact .inr rfl
theorem wasL_len (was : List Int) (l : List Ent) : (wasL was l).length ≤ was.length + l.length := by
  induction l using snoc_ind with
  | h0 => simp [wasL]
  | hs l e ih =>
    rw [wasL_snoc]
    unfold addC
    split <;> simp <;> omega
theorem wasL_grow {was : List Int} {l : List Ent} {i : Nat} (h : i < l.length) : wasL was (l.take (i + 1)) = addC (wasL was (l.take i)) l[i].file := by
  rw [List.take_succ_eq_append_getElem h, wasL_snoc]
theorem wasL_ge (was : List Int) (l : List Ent) : was.length ≤ (wasL was l).length := by
  have := wasL_pre was [] l
  obtain ⟨r, hr⟩ := this
  simp only [List.nil_append] at hr
  rw [hr]
  simp [wasL]
theorem ren_grow {was : List Int} {l : List Ent} {i : Nat} (h : i < l.length) : ((l.take (i + 1)).map fun e => Ent.d (renE (wasL was (l.take (i + 1))) e)) = ((l.take i).map fun e => Ent.d (renE (wasL was (l.take i)) e)) ++ [Ent.d ⟨l[i].name, posC (addC (wasL was (l.take i)) l[i].file) l[i].file⟩] := by
  rw [List.take_succ_eq_append_getElem h, List.map_append]
  have hw : wasL was (l.take i ++ [l[i]]) = addC (wasL was (l.take i)) l[i].file := wasL_snoc _ _ _
  congr 1
  · refine List.map_congr_left fun e he => ?_
    have hm : e.file ∈ wasL was (l.take i) := mem_wasL.2 (.inr ⟨e, he, rfl⟩)
    obtain ⟨r, hr⟩ := addC_pre (wasL was (l.take i)) l[i].file
    unfold renE
    rw [hw, hr, posC_app hm]
  · rw [hw]
    rfl
def dlI (fo no g nf gf : Nat) (now kept : List Ent) (old : List FileD) (was : List Int) (l : List Ent) (i : Nat) (S : PS) : Prop :=
  i ≤ l.length ∧ S.t 0 = .ptr no g 0 ∧ S.t 8 = .d (.slice (l.map Ent.d)) ∧ S.t 9 = .d (.int .i64 l.length) ∧ S.t 10 = .d (.int .i64 i) ∧ S.t 5 = .d (.slice ((l.take i).map fun e => Ent.d (renE (wasL was (l.take i)) e))) ∧ S.own (.t 5 0) = true ∧
    dnB fo no g nf (gf + ((wasL was (l.take i)).length - was.length)) ((wasL was (l.take i)).map (fileAt old)) now kept old (wasL was (l.take i)) S
theorem diskList (no g nf gf : Nat) {fo : Nat} {gl : Nat → Nat} (hno : no < fo) (hnf : nf < fo) (hne : no ≠ nf) (hg : 0 < g) (hgf : 0 < gf) (l now kept : List Ent) (old : List FileD) (was : List Int) (hw : was.length + l.length ≤ 100000) (hin : inK l old.length) (hz : sizedF old) :
    Meets Tryz.prog fo gl 60 [.ptr no g 0, .d (.slice (l.map Ent.d))] [oU no g nf gf (was.map (fileAt old)) now kept old was, fU nf gf (was.map (fileAt old))] (.d (.slice (l.map fun e => Ent.d (renE (wasL was l) e)))) (fun _ => false)
      [oU no g nf (gf + ((wasL was l).length - was.length)) ((wasL was l).map (fileAt old)) now kept old (wasL was l), fU nf (gf + ((wasL was l).length - was.length)) ((wasL was l).map (fileAt old))] := by
  refine Meets.by (by kernel_rfl) Tryz.func60 (by kernel_rfl) rfl [14, 60007, 90016, 40020, 100020] (by simp) (by kernel_rfl) (by kernel_rfl) (by simp [namesIn, namesL, hg, hgf, oU, fU, oBox, fBox, (fun n => Nat.add_pos_left hgf n : ∀ n, 0 < gf + n)]) (by simp [namesIn, namesL, hg, hgf, oU, fU, oBox, fBox, (fun n => Nat.add_pos_left hgf n : ∀ n, 0 < gf + n)]) (by simp [hg, hgf, oU, fU, oBox, fBox, (fun n => Nat.add_pos_left hgf n : ∀ n, 0 < gf + n)]) ?_
  conv in ccs _ => cbv
  have hne' : nf ≠ no := fun e => hne e.symm
  have hk1 : ∀ k, (no = fo + k) = False := fun k => by simp; omega
  have hk2 : ∀ k, (fo + k = no) = False := fun k => by simp; omega
  have hk3 : ∀ k, (nf = fo + k) = False := fun k => by simp; omega
  have hk4 : ∀ k, (fo + k = nf) = False := fun k => by simp; omega
  simp (config := sc) (disch := first | exact dd | fail) [std, oU, fU, oBox]
  refine lp (dlI fo no g nf gf now kept old was l) (fun i => l.length - i) 0 ⟨by omega, by simp (config := sc) (disch := first | exact dd | fail) [std], by simp (config := sc) (disch := first | exact dd | fail) [std], by simp (config := sc) (disch := first | exact dd | fail) [std], by simp (config := sc) (disch := first | exact dd | fail) [std], by simp (config := sc) (disch := first | exact dd | fail) [std], by simp (config := sc) (disch := first | exact dd | fail) [std], by simp (config := sc) (disch := first | exact dd | fail) [std, dnB, hne, hne', oBox, wasL]⟩ ?_
  rintro i S ⟨hi, e0, e8, e9, e10, e5, o5, hB⟩
  by_cases hlt : i < l.length
  · have k6 : (i : Int) < l.length := by omega
    obtain ⟨efo, g1, b1, g2, b2, o1, o2⟩ := hB
    have hwl := wasL_len was (l.take i)
    have hwg := wasL_ge was (l.take i)
    rw [List.length_take] at hwl
    obtain ⟨f0, f1⟩ := hin _ (List.getElem_mem hlt)
    have hgr := wasL_grow (was := was) hlt
    have hrg := ren_grow (was := was) hlt
    by_cases hx : l[i].file ∈ wasL was (l.take i)
    · have hadd : addC (wasL was (l.take i)) l[i].file = wasL was (l.take i) := by
        unfold addC
        rw [if_pos (by simpa using hx)]
      rw [hadd] at hgr hrg
      have q := fun gl => diskNumber1 no g nf (gf + ((wasL was (l.take i)).length - was.length)) (fo := fo + 1000) (gl := gl) (by omega) (by omega) hne hg (by omega) l[i].file ((wasL was (l.take i)).map (fileAt old)) now kept old (wasL was (l.take i)) hx (by omega)
      simp (config := sc) (disch := first | exact dd | fail) [std, e0, e5, e8, e9, e10, o5, k6, efo, g1, b1, g2, b2, o1]
      refine o_cb (fo + 1000) rfl rfl (q _) rfl ?_ ?_ ?_
      · simp (config := sc) (disch := first | exact dd | fail) [std, oU, fU, oBox, g1, b1, g2, b2, o1, efo, hk1, hk2, hk3, hk4, hne, hne']
        refine ⟨hg, by omega, fun k h1 h2 => o2 k (by simp [h1, h2])⟩
      · simp (config := sc) (disch := first | exact dd | fail) [std, oU, fU, oBox, e0, e8, e9, e10, g1, b1, g2, b2, o1, o5, efo, hk1, hk2, hk3, hk4, hne, hne']
        exact nxt_of (i + 1) ⟨by omega, by simp (config := sc) (disch := first | exact dd | fail) [std, e0], by simp (config := sc) (disch := first | exact dd | fail) [std, e8], by simp (config := sc) (disch := first | exact dd | fail) [std, e9], by simp (config := sc) (disch := first | exact dd | fail) [std], by rw [hrg]; simp (config := sc) (disch := first | exact dd | fail) [std, Ent.d, renE], by simp (config := sc) (disch := first | exact dd | fail) [std], by
          rw [hgr]
          exact ⟨by simp (config := sc) (disch := first | exact dd | fail) [std, efo], by simp (config := sc) (disch := first | exact dd | fail) [std, efo, hk1, hk2, hk3, hk4, hne, hne'], by simp (config := sc) (disch := first | exact dd | fail) [std, oBox, efo, hk1, hk2, hk3, hk4, hne, hne'], by simp (config := sc) (disch := first | exact dd | fail) [std, efo, hk1, hk2, hk3, hk4, hne, hne'], by simp (config := sc) (disch := first | exact dd | fail) [std, efo, hk1, hk2, hk3, hk4, hne, hne'], by simp (config := sc) (disch := first | exact dd | fail) [std, efo, hk1, hk2, hk3, hk4, hne, hne'], fun k hk => by
            simp only [Bool.and_eq_true, beq_iff_eq, decide_eq_true_eq, List.length_map, List.length_append, List.length_cons, List.length_nil] at hk
            simp (config := sc) (disch := first | exact dd | fail) [std, efo, hk1, hk2, hk3, hk4, hne, hne', hk]⟩⟩ (by omega)
      · refine .inr ?_
        simp (config := sc) (disch := first | exact dd | fail) [std, efo, hk1, hk2, hk3, hk4, hne, hne']
    · have hadd : addC (wasL was (l.take i)) l[i].file = wasL was (l.take i) ++ [l[i].file] := by
        unfold addC
        rw [if_neg (by simpa using hx)]
      rw [hadd] at hgr hrg
      have hfz : (fileAt old l[i].file).data.length ≤ 100000 := by
        obtain ⟨n, hn⟩ := Int.eq_ofNat_of_zero_le f0
        have hnl : n < old.length := by omega
        have : fileAt old l[i].file = old[n] := by rw [hn]; simp [fileAt, List.getD_eq_getElem?_getD, hnl]
        rw [this]
        exact hz.2 _ (List.getElem_mem hnl)
      have hq : gf + ((wasL was (l.take i)).length + 1 - was.length) = gf + ((wasL was (l.take i)).length - was.length) + 1 := by omega
      have q := fun gl => diskNumber2 no g nf (gf + ((wasL was (l.take i)).length - was.length)) (fo := fo + 1000) (gl := gl) (by omega) (by omega) hne hg (by omega) l[i].file ((wasL was (l.take i)).map (fileAt old)) now kept old (wasL was (l.take i)) hx (by omega) (by simp; omega) f0 f1 hfz
      simp (config := sc) (disch := first | exact dd | fail) [std, e0, e5, e8, e9, e10, o5, k6, efo, g1, b1, g2, b2, o1]
      refine o_cb (fo + 1000) rfl rfl (q _) rfl ?_ ?_ ?_
      · simp (config := sc) (disch := first | exact dd | fail) [std, oU, fU, oBox, g1, b1, g2, b2, o1, efo, hk1, hk2, hk3, hk4, hne, hne']
        refine ⟨hg, by omega, fun k h1 h2 => o2 k (by simp [h1, h2])⟩
      · simp (config := sc) (disch := first | exact dd | fail) [std, oU, fU, oBox, e0, e8, e9, e10, g1, b1, g2, b2, o1, o5, efo, hk1, hk2, hk3, hk4, hne, hne']
        exact nxt_of (i + 1) ⟨by omega, by simp (config := sc) (disch := first | exact dd | fail) [std, e0], by simp (config := sc) (disch := first | exact dd | fail) [std, e8], by simp (config := sc) (disch := first | exact dd | fail) [std, e9], by simp (config := sc) (disch := first | exact dd | fail) [std], by rw [hrg]; simp (config := sc) (disch := first | exact dd | fail) [std, Ent.d, renE, posC_new hx], by simp (config := sc) (disch := first | exact dd | fail) [std], by
          rw [hgr]
          exact ⟨by simp (config := sc) (disch := first | exact dd | fail) [std, efo], by simp (config := sc) (disch := first | exact dd | fail) [std, efo, hk1, hk2, hk3, hk4, hne, hne'], by simp (config := sc) (disch := first | exact dd | fail) [std, oBox, hq, efo, hk1, hk2, hk3, hk4, hne, hne'], by simp (config := sc) (disch := first | exact dd | fail) [std, hq, efo, hk1, hk2, hk3, hk4, hne, hne'], by simp (config := sc) (disch := first | exact dd | fail) [std, efo, hk1, hk2, hk3, hk4, hne, hne'], by simp (config := sc) (disch := first | exact dd | fail) [std, efo, hk1, hk2, hk3, hk4, hne, hne'], fun k hk => by
            simp only [Bool.and_eq_true, beq_iff_eq, decide_eq_true_eq, List.length_map, List.length_append, List.length_cons, List.length_nil] at hk
            simp (config := sc) (disch := first | exact dd | fail) [std, efo, hk1, hk2, hk3, hk4, hne, hne', hk]⟩⟩ (by omega)
      · refine .inr ?_
        simp (config := sc) (disch := first | exact dd | fail) [std, efo, hk1, hk2, hk3, hk4, hne, hne']
  · have k6 : ¬ (i : Int) < l.length := by omega
    have ht : l.take i = l := List.take_of_length_le (by omega)
    obtain ⟨efo, g1, b1, g2, b2, o1, o2⟩ := hB
    rw [ht] at b1 g2 b2 o2 e5
    simp (config := sc) (disch := first | exact dd | fail) [std, e0, e5, e8, e9, e10, o5, k6, efo, g1, b1, g2, b2, o1, oU, fU, oBox]
    exact fun k h1 h2 => o2 k (by simp [h1, h2])

theorem map_ren {w : List Int} {l : List Ent} : (l.map fun e => Ent.d (renE w e)) = (l.map (renE w)).map Ent.d := by rw [List.map_map]; rfl
theorem diskListM (no g nf gf : Nat) {fo : Nat} {gl : Nat → Nat} (hno : no < fo) (hnf : nf < fo) (hne : no ≠ nf) (hg : 0 < g) (hgf : 0 < gf) (l now kept : List Ent) (old : List FileD) (was : List Int) (hw : was.length + l.length ≤ 100000) (hin : inK l old.length) (hz : sizedF old) :
    Meets Tryz.prog fo gl 60 [.ptr no g 0, .d (.slice (l.map Ent.d))] [oU no g nf gf (was.map (fileAt old)) now kept old was, fU nf gf (was.map (fileAt old))] (.d (.slice ((l.map (renE (wasL was l))).map Ent.d))) (fun _ => false)
      [oU no g nf (gf + ((wasL was l).length - was.length)) ((wasL was l).map (fileAt old)) now kept old (wasL was l), fU nf (gf + ((wasL was l).length - was.length)) ((wasL was l).map (fileAt old))] := by
  have := diskList no g nf gf (gl := gl) hno hnf hne hg hgf l now kept old was hw hin hz
  rwa [map_ren] at this

/-- What the files are, in order. -/
def ordF (k : Dk) : List FileD := (cameS (k.now ++ k.kept)).map (fileAt k.files)
theorem ordered_parts (k : Dk) : wasL (wasL [] k.now) k.kept = cameS (k.now ++ k.kept) := by rw [← wasL_app, wasL_came]
theorem ren_more {l k : List Ent} : (l.map fun e => Ent.d (renE (wasL [] l) e)) = l.map fun e => Ent.d (renE (cameS (l ++ k)) e) := by
  refine List.map_congr_left fun e he => ?_
  obtain ⟨r, hr⟩ := came_pre l k
  have hm : e.file ∈ cameS l := mem_came.2 ⟨e, he, rfl⟩
  rw [wasL_came, hr]
  unfold renE
  rw [posC_app hm]
def inD (k : Dk) : Prop := inK k.now k.files.length ∧ inK k.kept k.files.length
theorem orderedS_d (k : Dk) : (orderedS k).d = .agg [.slice (((wasL (wasL [] k.now) k.kept).map (fileAt k.files)).map FileD.d), .slice ((k.now.map (renE (wasL [] k.now))).map Ent.d), .slice ((k.kept.map (renE (wasL (wasL [] k.now) k.kept))).map Ent.d)] := by
  rw [← map_ren (w := wasL [] k.now), ren_more (k := k.kept), ordered_parts]
  unfold orderedS Dk.d
  simp only [List.map_map]
  rfl
/-- A disk in order, with its files as a box: its cells. -/
def dkB (nf gf : Nat) (k : Dk) : List PV := [.bsl nf gf k.files.length 2 true, .d (.slice (k.now.map Ent.d)), .d (.slice (k.kept.map Ent.d))]
theorem diskOrdered (k : Dk) (hk : sizedK k) (hin : inD k) (hl : k.now.length + k.kept.length ≤ 100000) : Holds Tryz.prog 33 [.d k.d] (.d (orderedS k).d) (fun _ => false) := by
  refine Holds.by (by kernel_rfl) Tryz.func33 (by kernel_rfl) rfl [20001, 80006, 1006005, 80007, 40012, 40020] (by simp) (by kernel_rfl) (by kernel_rfl) rfl ?_
  conv in ccs _ => cbv
  have q1 := fun gl => diskListM (FO + 7) 1 (FO + 6) 1 (fo := FO + 2000) (gl := gl) (by omega) (by omega) (by omega) (by omega) (by omega) k.now [] [] k.files [] (by simp; omega) hin.1 hk.1
  have hw1 := wasL_len [] k.now
  simp only [List.length_nil, Nat.zero_add] at hw1
  have q2 := fun gl => diskListM (FO + 7) 1 (FO + 6) (1 + ((wasL [] k.now).length - 0)) (fo := FO + 2000) (gl := gl) (by omega) (by omega) (by omega) (by omega) (by omega) k.kept (k.now.map (renE (wasL [] k.now))) [] k.files (wasL [] k.now) (by omega) hin.2 hk.1
  simp (config := sc) (disch := first | exact dd | fail) [std]
  refine o_cb (FO + 2000) rfl rfl (q1 _) rfl (by simp (config := sc) (disch := first | exact dd | fail) [std, oU, fU, oBox, fBox_nil]) ?_
  simp (config := sc) (disch := first | exact dd | fail) [std, oU, fU, oBox, fBox_nil]
  refine o_cb (FO + 2000) rfl rfl (q2 _) rfl ?_ ?_
  · simp (config := sc) (disch := first | exact dd | fail) [std, oU, fU, oBox, fBox_nil]
    omega
  · have hfl : ((wasL (wasL [] k.now) k.kept).map (fileAt k.files)).length = (wasL (wasL [] k.now) k.kept).length := by simp
    have hfb : (fBox ((wasL (wasL [] k.now) k.kept).map (fileAt k.files))).length = (wasL (wasL [] k.now) k.kept).length * 2 := by
      rw [fBox_len, hfl]
      omega
    simp (config := sc) (disch := first | exact dd | fail) [std, oU, fU, oBox, fBox_nil, fBox_thaw hfl, hfb]
    rw [← List.map_map (g := FileD.d), fBox_chunk hfl, orderedS_d]
    simp only [List.map_map]

end Go.Proofs.YtkbidfohcanijaaGreat
