/- Disks: what the program's disk answers, last part: what is left when the power goes. -/
import Derived.Test.YtkbidfohcanijaaGreatDiskY
namespace Go.Proofs.YtkbidfohcanijaaGreat
open BoEng Go
set_option maxRecDepth 100000
attribute [-simp] List.map_take List.map_drop List.length_flatMap
set_option linter.unusedSimpArgs false
set_option linter.unusedVariables false

/-- What becomes of the files, name by name. -/
def crF (fs : List FileD) (l : List Ent) (keep : List Int) : Nat → List FileD
  | 0 => fs
  | i + 1 => (crF fs l keep i).set (l.getD i default).file.toNat (cutF (fileAt fs (l.getD i default).file) (leftN (fileAt fs (l.getD i default).file) keep[i]?))
theorem crF_len (fs : List FileD) (l : List Ent) (keep : List Int) : ∀ i, (crF fs l keep i).length = fs.length
  | 0 => rfl
  | i + 1 => by simp only [crF, List.length_set, crF_len fs l keep i]
theorem fileAt_sz {fs : List FileD} {B : Nat} (h : ∀ f ∈ fs, f.data.length ≤ B) (x : Int) : (fileAt fs x).data.length ≤ B := by
  unfold fileAt
  rw [List.getD_eq_getElem?_getD]
  cases hx : fs[x.toNat]? with
  | none => exact Nat.zero_le _
  | some f => exact h f (List.mem_of_getElem? hx)
theorem crF_sz {fs : List FileD} {l : List Ent} {keep : List Int} {B : Nat} (h : ∀ f ∈ fs, f.data.length ≤ B) : ∀ i, ∀ f ∈ crF fs l keep i, f.data.length ≤ B
  | 0 => h
  | i + 1 => by
    intro f hf
    rcases List.mem_or_eq_of_mem_set hf with h1 | rfl
    · exact crF_sz h i f h1
    · have := fileAt_sz h (l.getD i default).file
      simp only [cutF, List.length_take]
      omega
theorem ent_inj {l : List Ent} (hd : (l.map Ent.file).Nodup) {i j : Nat} (hi : i < l.length) (hj : j < l.length) (h : l[i].file = l[j].file) : i = j := by
  unfold List.Nodup at hd
  rw [List.pairwise_iff_getElem] at hd
  rcases Nat.lt_trichotomy i j with h2 | h2 | h2
  · exact absurd (by rw [List.getElem_map, List.getElem_map]; exact h) (hd i j (by simpa using hi) (by simpa using hj) h2)
  · exact h2
  · exact absurd (by rw [List.getElem_map, List.getElem_map]; exact h.symm) (hd j i (by simpa using hj) (by simpa using hi) h2)
theorem crF_old {fs : List FileD} {l : List Ent} {keep : List Int} (hd : (l.map Ent.file).Nodup) (hin : inK l fs.length) : ∀ (i j : Nat) (hj : j < l.length), i ≤ j → fileAt (crF fs l keep i) l[j].file = fileAt fs l[j].file
  | 0, j, hj, _ => rfl
  | i + 1, j, hj, hij => by
    have ih := crF_old (keep := keep) hd hin i j hj (by omega)
    have hi : i < l.length := by omega
    rw [← ih]
    have h1 := hin _ (List.getElem_mem hi)
    have h2 := hin _ (List.getElem_mem hj)
    have hne : l[i].file ≠ l[j].file := fun e => by have := ent_inj hd hi hj e; omega
    simp only [crF, fileAt, List.getD_eq_getElem?_getD, List.getElem?_eq_getElem hi, Option.getD_some]
    rw [List.getElem?_set_ne (by omega)]
theorem crF_new {fs : List FileD} {l : List Ent} {keep : List Int} (hd : (l.map Ent.file).Nodup) (hin : inK l fs.length) : ∀ (i j : Nat) (hj : j < l.length), j < i → i ≤ l.length → fileAt (crF fs l keep i) l[j].file = cutF (fileAt fs l[j].file) (leftN (fileAt fs l[j].file) keep[j]?)
  | i + 1, j, hj, hij, hil => by
    have hi : i < l.length := by omega
    have h1 := hin _ (List.getElem_mem hi)
    have h2 := hin _ (List.getElem_mem hj)
    have hlen := crF_len fs l keep i
    by_cases e : j = i
    · subst e
      have e1 : (crF fs l keep (j + 1)) = (crF fs l keep j).set l[j].file.toNat (cutF (fileAt fs l[j].file) (leftN (fileAt fs l[j].file) keep[j]?)) := by
        simp only [crF, List.getD_eq_getElem?_getD, List.getElem?_eq_getElem hj, Option.getD_some]
      rw [e1]
      unfold fileAt
      rw [List.getD_eq_getElem?_getD, List.getElem?_set_self (by omega)]
      rfl
    · have ih := crF_new (keep := keep) hd hin i j hj (by omega) (by omega)
      rw [← ih]
      have hne : l[i].file ≠ l[j].file := fun e2 => by have := ent_inj hd hi hj e2; omega
      have e1 : (crF fs l keep (i + 1)) = (crF fs l keep i).set l[i].file.toNat (cutF (fileAt fs l[i].file) (leftN (fileAt fs l[i].file) keep[i]?)) := by
        simp only [crF, List.getD_eq_getElem?_getD, List.getElem?_eq_getElem hi, Option.getD_some]
      rw [e1]
      simp only [fileAt, List.getD_eq_getElem?_getD]
      rw [List.getElem?_set_ne (by omega)]
theorem came_self {l : List Ent} (hd : (l.map Ent.file).Nodup) : cameS l = l.map Ent.file := by
  induction l using snoc_ind with
  | h0 => rfl
  | hs l e ih =>
    rw [List.map_append, List.nodup_append] at hd
    rw [cameS_snoc, ih hd.1, List.map_append]
    unfold addC
    rw [if_neg]
    · rfl
    · intro h
      have h : e.file ∈ l.map Ent.file := by simpa using h
      exact hd.2.2 _ h e.file (by simp) rfl
theorem came_twice (l : List Ent) : cameS (l ++ l) = cameS l := by
  have : ∀ k : List Ent, (∀ e ∈ k, e ∈ l) → cameS (l ++ k) = cameS l := by
    intro k
    induction k using snoc_ind with
    | h0 => simp
    | hs k e ih =>
      intro h
      rw [← List.append_assoc, cameS_snoc, ih (fun x hx => h x (by simp [hx]))]
      unfold addC
      rw [if_pos]
      have : e.file ∈ cameS l := mem_came.2 ⟨e, h e (by simp), rfl⟩
      simpa using this
  exact this l fun e h => h
theorem posC_map {l : List Ent} (hd : (l.map Ent.file).Nodup) {i : Nat} (hi : i < l.length) : posC (l.map Ent.file) l[i].file = i := by
  refine posC_first (by simpa using hi) (fun j hj hji e => ?_) (by simp)
  simp only [List.getElem_map] at e
  have := ent_inj hd (by simpa using hj) hi e
  omega
theorem crash_ordered {k : Dk} {keep : List Int} {dir : Bool} : orderedS ⟨crF (goodK k).files (crashL k dir) keep (crashL k dir).length, crashL k dir, crashL k dir⟩ = crashS k keep dir := by
  have hr := good_right k
  have hm : namedS (crashL k dir) (goodK k).files.length = true := by
    obtain ⟨h1, h2, h3, h4, h5⟩ := rightK_iff.1 hr
    unfold crashL
    cases dir <;> simp [h2, h3]
  have hd := named_nodup hm
  have hin := named_in hm
  unfold orderedS crashS
  simp only [came_twice, came_self hd]
  generalize crashL k dir = l at *
  generalize (goodK k).files = fs at *
  have hnm : l.map (renE (l.map Ent.file)) = (List.range l.length).map fun i => (⟨(l.getD i default).name, (i : Int)⟩ : Ent) := by
    apply List.ext_getElem (by simp)
    intro i h1 h2
    simp only [List.length_map] at h1
    simp only [List.getElem_map, List.getElem_range, renE, posC_map hd h1, List.getD_eq_getElem?_getD, List.getElem?_eq_getElem h1, Option.getD_some]
  rw [hnm]
  congr 1
  apply List.ext_getElem (by simp)
  intro i h1 h2
  simp only [List.length_map] at h1
  simp only [List.getElem_map, List.getElem_range, List.getD_eq_getElem?_getD, List.getElem?_eq_getElem h1, Option.getD_some]
  exact crF_new hd hin _ _ h1 h1 (Nat.le_refl _)

def dcI (fs : List FileD) (d : Dk) (l : List Ent) (keep : List Int) (nf gf : Nat) (i : Nat) (S : PS) : Prop :=
  i ≤ l.length ∧ S.t 1 = .d (.slice (keep.map intD)) ∧ S.t 3 = .ptr (FO + 3) 1 0 ∧ S.t 6 = .ptr (FO + 6) 1 0 ∧ S.t 7 = .d (.slice (l.map Ent.d)) ∧ S.t 19 = .d (.slice (l.map Ent.d)) ∧ S.t 20 = .d (.int .i64 l.length) ∧ S.t 21 = .d (.int .i64 i) ∧
    S.fo = FO ∧ S.gen (FO + 3) = 1 ∧ S.box (FO + 3) = dkB nf gf d ∧ S.gen (FO + 6) = 1 ∧ S.box (FO + 6) = [.d (.slice []), .d (.slice []), .d (.slice [])] ∧ S.gen nf = gf ∧ S.box nf = fBox (crF fs l keep i)
theorem diskCrash (k : Dk) (hk : okK k) (keep : List Int) (hkp : keep.length ≤ 1000000) (dir : Bool) : Holds Tryz.prog 14 [.d k.d, .d (.slice (keep.map intD)), .d (.bool dir)] (.d (crashS k keep dir).d) (fun _ => false) := by
  refine Holds.by (by kernel_rfl) Tryz.func14 (by kernel_rfl) rfl [40013, 20076] (by simp) (by kernel_rfl) (by kernel_rfl) rfl ?_
  conv in ccs _ => cbv
  obtain ⟨hk1, hk2⟩ := hk
  have q := fun gl => diskOwnB (fo := FO + 1000) (gl := gl) k hk1 (by omega)
  have hrg := good_right k
  have hok := ok_good ⟨hk1, hk2⟩
  rw [← crash_ordered]
  unfold crashL
  generalize goodK k = d at *
  have hll := right_lens hrg
  simp (config := sc) (disch := first | exact dd | fail) [std, Dk.d]
  refine o_cbE (FO + 1000) rfl rfl (q _) rfl (by simp (config := sc) (disch := first | exact dd | fail) [std]) ?_
  rintro ⟨nf, gf⟩ ⟨h1, h2, h3⟩
  simp only at h1 h2 h3
  have hk1 : ∀ k, k < 1000 → (nf = FO + k) = False := fun k hk => by simp; omega
  have hk2 : ∀ k, k < 1000 → (FO + k = nf) = False := fun k hk => by simp; omega
  have hm : namedS (if dir = true then d.now else d.kept) d.files.length = true := by
    obtain ⟨g1, g2, g3, g4, g5⟩ := rightK_iff.1 hrg
    cases dir <;> simp [g2, g3]
  have hle : (if dir = true then d.now else d.kept).length ≤ 20 := by cases dir <;> simp <;> omega
  have hsz : sizedE (if dir = true then d.now else d.kept) := by cases dir <;> simp [hok.1.2.1, hok.1.2.2]
  obtain ⟨l, hl⟩ : ∃ l, l = if dir = true then d.now else d.kept := ⟨_, rfl⟩
  rw [← hl] at hm hle hsz ⊢
  have hdd := named_nodup hm
  have hin := named_in hm
  have hfo := (rightK_iff.1 hrg).2.2.2.1
  have hfok : ∀ x : Int, 0 ≤ x → x < d.files.length → fileOk (fileAt d.files x) = true := by
    intro x g1 g2
    refine List.all_eq_true.1 hfo _ ?_
    obtain ⟨n, rfl⟩ := Int.eq_ofNat_of_zero_le g1
    have : n < d.files.length := by omega
    simp [fileAt, List.getD_eq_getElem?_getD, this]
  simp (config := sc) (disch := first | exact dd | fail) [std, dkB, fU, hk1, hk2, h3]
  refine cnd_join (fun S => S.t 1 = .d (.slice (keep.map intD)) ∧ S.t 3 = .ptr (FO + 3) 1 0 ∧ S.t 6 = .ptr (FO + 6) 1 0 ∧ S.t 7 = .d (.slice (l.map Ent.d)) ∧ S.fo = FO ∧ S.gen (FO + 3) = 1 ∧ S.box (FO + 3) = dkB nf gf d ∧ S.gen (FO + 6) = 1 ∧ S.box (FO + 6) = [.d (.slice []), .d (.slice []), .d (.slice [])] ∧ S.gen nf = gf ∧ S.box nf = fBox d.files) ?_ ?_ ?_
  · intro hdir
    rw [if_pos hdir] at hl
    simp (config := sc) (disch := first | exact dd | fail) [std, dkB, hk1, hk2, hl]
  · intro hdir
    rw [if_neg (by simp [hdir])] at hl
    simp (config := sc) (disch := first | exact dd | fail) [std, dkB, hk1, hk2, hl]
  clear q
  rintro S ⟨e1, e3, e6, e7, efo, g3, b3, g6, b6, gn, bn⟩
  simp (config := sc) (disch := first | exact dd | fail) [std, e1, e3, e6, e7]
  refine lp (dcI d.files d l keep nf gf) (fun i => l.length - i) 0 ⟨by omega, by simp (config := sc) (disch := first | exact dd | fail) [std, e1], by simp (config := sc) (disch := first | exact dd | fail) [std, e3], by simp (config := sc) (disch := first | exact dd | fail) [std, e6], by simp (config := sc) (disch := first | exact dd | fail) [std, e7], by simp, by simp, by simp, by simp (config := sc) (disch := first | exact dd | fail) [std, efo], by simp (config := sc) (disch := first | exact dd | fail) [std, g3], by simp (config := sc) (disch := first | exact dd | fail) [std, b3], by simp (config := sc) (disch := first | exact dd | fail) [std, g6], by simp (config := sc) (disch := first | exact dd | fail) [std, b6], by simp (config := sc) (disch := first | exact dd | fail) [std, gn], by simp (config := sc) (disch := first | exact dd | fail) [std, bn, crF]⟩ ?_
  clear e1 e3 e6 e7 efo g3 b3 g6 b6 gn bn S
  rintro i S ⟨hi, e1, e3, e6, e7, e19, e20, e21, efo, g3, b3, g6, b6, gn, bn⟩
  by_cases hlt : i < l.length
  · have k6 : (i : Int) < l.length := by omega
    obtain ⟨f0, f1⟩ := hin _ (List.getElem_mem hlt)
    obtain ⟨n, hn⟩ := Int.eq_ofNat_of_zero_le f0
    have hcl := crF_len d.files l keep i
    have hnl : n < (crF d.files l keep i).length := by omega
    have hold := crF_old (keep := keep) hdd hin i i hlt (Nat.le_refl _)
    have hfk := hfok _ f0 f1
    have hstep : crF d.files l keep (i + 1) = (crF d.files l keep i).set n (cutF (fileAt d.files l[i].file) (leftN (fileAt d.files l[i].file) keep[i]?)) := by
      simp only [crF, List.getD_eq_getElem?_getD, List.getElem?_eq_getElem hlt, Option.getD_some, hn, Int.toNat_natCast]
    have hcf : (crF d.files l keep i)[n] = fileAt d.files l[i].file := by
      rw [← hold, hn]
      simp [fileAt, List.getD_eq_getElem?_getD, hnl]
    have hcb : (fBox (crF d.files l keep i)).length = d.files.length * 2 := by rw [fBox_len, hcl]; omega
    obtain ⟨ha1, ha2⟩ := fBox_at hnl
    obtain ⟨_, hb1⟩ := List.getElem?_eq_some_iff.1 ha1
    obtain ⟨_, hb2⟩ := List.getElem?_eq_some_iff.1 ha2
    have hfd := fBox_data hnl
    have hfs := fBox_safe2 hnl
    rw [hcf] at hb1 hb2
    simp only [hcf] at hfd
    generalize fileAt d.files l[i].file = f at *
    generalize crF d.files l keep i = cs at *
    simp only [fileOk, decide_eq_true_eq] at hfk
    obtain ⟨w1, w2, w3⟩ := hfk
    have hnd : n < d.files.length := by omega
    have hnd2 : n * 2 + 1 + 1 ≤ d.files.length * 2 := by omega
    have hcs : ∀ g, (fBox (cs.set n g)).length = d.files.length * 2 := fun g => by rw [fBox_len, List.length_set, hcl]; omega
    by_cases hkl : i < keep.length
    · have k7 : (i : Int) < keep.length := by omega
      rw [List.getElem?_eq_getElem hkl] at hstep
      obtain ⟨m, hm⟩ := Int.eq_ofNat_of_zero_le (show 0 ≤ f.safe + max 0 (min keep[i] (f.data.length - f.safe)) by omega)
      have hmd : m ≤ f.data.length := by omega
      have hst2 : fBox (cs.set n ⟨f.data.take m, (m : Int)⟩) = fBox (crF d.files l keep (i + 1)) := by
        rw [hstep]
        simp only [leftN, cutF, hm, Int.toNat_natCast]
      have hmin : ∀ a b : Int, (if b < a then b else a) = min a b := by intro a b; split <;> omega
      have hmax : ∀ a b : Int, (if a < b then b else a) = max a b := by intro a b; split <;> omega
      simp (config := sc) (disch := first | exact dd | fail) [std, e1, e3, e6, e7, e19, e20, e21, k6, k7, efo, g3, b3, g6, b6, gn, bn, dkB, hk1, hk2, hn, hnd, hcb, hb1, hb2, hm, hfd, hfs, hcs, hnd2, hmd, hmin, hmax, intD]
      exact nxt_of (i + 1) ⟨by omega, by simp (config := sc) (disch := first | exact dd | fail) [std, e1], by simp (config := sc) (disch := first | exact dd | fail) [std, e3], by simp (config := sc) (disch := first | exact dd | fail) [std, e6], by simp (config := sc) (disch := first | exact dd | fail) [std, e7], by simp (config := sc) (disch := first | exact dd | fail) [std, e19], by simp (config := sc) (disch := first | exact dd | fail) [std, e20], by simp, by simp (config := sc) (disch := first | exact dd | fail) [std, efo], by simp (config := sc) (disch := first | exact dd | fail) [std, hk1, hk2, g3, efo], by simp (config := sc) (disch := first | exact dd | fail) [std, hk1, hk2, b3, efo, dkB], by simp (config := sc) (disch := first | exact dd | fail) [std, hk1, hk2, g6, efo], by simp (config := sc) (disch := first | exact dd | fail) [std, hk1, hk2, b6, efo], by simp (config := sc) (disch := first | exact dd | fail) [std, hk1, hk2, gn, efo], by simp (config := sc) (disch := first | exact dd | fail) [std, hk1, hk2, bn, efo, hst2]⟩ (by omega)
    · have k7 : ¬ (i : Int) < keep.length := by omega
      rw [List.getElem?_eq_none (by omega)] at hstep
      obtain ⟨m, hm⟩ := Int.eq_ofNat_of_zero_le w2
      have hst2 : fBox (cs.set n ⟨f.data.take m, (m : Int)⟩) = fBox (crF d.files l keep (i + 1)) := by
        rw [hstep]
        simp only [leftN, cutF, hm, Int.toNat_natCast]
      have hmd : m ≤ f.data.length := by omega
      simp (config := sc) (disch := first | exact dd | fail) [std, e1, e3, e6, e7, e19, e20, e21, k6, k7, efo, g3, b3, g6, b6, gn, bn, dkB, hk1, hk2, hn, hnd, hcb, hb1, hb2, hm, hfd, hfs, hcs, hnd2, hmd]
      exact nxt_of (i + 1) ⟨by omega, by simp (config := sc) (disch := first | exact dd | fail) [std, e1], by simp (config := sc) (disch := first | exact dd | fail) [std, e3], by simp (config := sc) (disch := first | exact dd | fail) [std, e6], by simp (config := sc) (disch := first | exact dd | fail) [std, e7], by simp (config := sc) (disch := first | exact dd | fail) [std, e19], by simp (config := sc) (disch := first | exact dd | fail) [std, e20], by simp, by simp (config := sc) (disch := first | exact dd | fail) [std, efo], by simp (config := sc) (disch := first | exact dd | fail) [std, hk1, hk2, g3, efo], by simp (config := sc) (disch := first | exact dd | fail) [std, hk1, hk2, b3, efo, dkB], by simp (config := sc) (disch := first | exact dd | fail) [std, hk1, hk2, g6, efo], by simp (config := sc) (disch := first | exact dd | fail) [std, hk1, hk2, b6, efo], by simp (config := sc) (disch := first | exact dd | fail) [std, hk1, hk2, gn, efo], by simp (config := sc) (disch := first | exact dd | fail) [std, hk1, hk2, bn, efo, hst2]⟩ (by omega)
  · have k6 : ¬ (i : Int) < l.length := by omega
    have hil : i = l.length := by omega
    subst hil
    have hcl := crF_len d.files l keep l.length
    have hcb : (fBox (crF d.files l keep l.length)).length = d.files.length * 2 := by rw [fBox_len, hcl]; omega
    obtain ⟨X, hX1, hX2⟩ := fBox_ex hcl
    have qo := diskOrdered ⟨crF d.files l keep l.length, l, l⟩ ⟨⟨by simp; omega, crF_sz hok.1.1.2 _⟩, hsz, hsz⟩ ⟨by simpa [hcl] using hin, by simpa [hcl] using hin⟩ (by simp; omega)
    simp (config := sc) (disch := first | exact dd | fail) [std, e1, e3, e6, e7, e19, e20, e21, k6, efo, g3, b3, g6, b6, gn, bn, dkB, hk1, hk2, hcb, hX1, hX2]
    refine o_call rfl rfl qo rfl rfl ?_
    simp (config := sc) (disch := first | exact dd | fail) [std, Dk.d, e1, e3, e6, e7, e19, e20, e21, efo, g3, b3, g6, b6, gn, bn, dkB, hk1, hk2]

end Go.Proofs.YtkbidfohcanijaaGreat
