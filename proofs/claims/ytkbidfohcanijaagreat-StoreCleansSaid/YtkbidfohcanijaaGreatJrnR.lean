/- Journals, plain laws: opened again. -/
import Derived.Test.YtkbidfohcanijaaGreatJrnQ
namespace Go.Proofs.YtkbidfohcanijaaGreat
open BoEng Go
set_option maxRecDepth 100000
set_option linter.unusedSimpArgs false
set_option linter.unusedVariables false

theorem open_good (k : Dk) : openJ (goodK k) = openJ k := by
  unfold openJ
  rw [get_good, cut_good, sync_good]
theorem open_form {k : Dk} (h : rightK k = true) (h0 : (openJ k).2 = 0) : ∃ s b zs n, rightK s = true ∧ readJ b = (zs, n, 0) ∧ fat nJ s.files s.now = ⟨b, b.length⟩ ∧ openJ k = (syncDirS (removeS s nK).1, 0) := by
  unfold openJ at h0 ⊢
  generalize hr : readJ (getS k nJ).1 = r at *
  obtain ⟨zs, n, e⟩ := r
  have he := read_err (getS k nJ).1
  rw [hr] at he
  dsimp only at h0 he ⊢
  by_cases h4 : e = 4
  · subst h4
    rw [if_pos rfl]
    obtain ⟨q, rfl, hq1, hq2⟩ := read_cut hr
    rw [fat_get h] at hq1 hq2 hr
    cases hx : findK k.now nJ with
    | none =>
      rw [fat_none hx, read_nil] at hr
      cases hr
    | some x =>
      rw [fat_some hx] at hq1 hq2
      have hin := find_in (right_inn h).1 hx
      have hcr := cut_right k nJ q
      rw [cut_at h hx hq1] at hcr ⊢
      dsimp only at hcr ⊢
      have hx2 : findK (setFile k x ⟨(fileAt k.files x).data.take q, (q : Int)⟩).now nJ = some x := hx
      have hf2 : fileAt (setFile k x ⟨(fileAt k.files x).data.take q, (q : Int)⟩).files x = ⟨(fileAt k.files x).data.take q, (q : Int)⟩ := fileAt_set hin.1 hin.2 _
      generalize setFile k x ⟨(fileAt k.files x).data.take q, (q : Int)⟩ = c at *
      have hin2 := find_in (right_inn hcr).1 hx2
      have hsr := sync_right c nJ
      refine ⟨(syncS c nJ).1, (fileAt k.files x).data.take q, zs, q, hsr, hq2, ?_, rfl⟩
      rw [sync_at hcr hx2]
      show fat nJ (setFile _ _ _).files (setFile _ _ _).now = _
      rw [(fat_setFile hcr hin2.1 hin2.2 _ nJ).1, if_pos hx2, hf2]
  · rw [if_neg h4] at h0 ⊢
    by_cases h00 : e = 0
    · subst h00
      rw [if_pos rfl]
      have hsr := sync_right k nJ
      rw [fat_get h] at hr
      cases hx : findK k.now nJ with
      | none =>
        rw [fat_none hx] at hr
        refine ⟨(syncS k nJ).1, [], zs, n, hsr, hr, ?_, rfl⟩
        rw [sync_no h hx, fat_none hx]
        rfl
      | some x =>
        rw [fat_some hx] at hr
        have hin := find_in (right_inn h).1 hx
        refine ⟨(syncS k nJ).1, _, zs, n, hsr, hr, ?_, rfl⟩
        rw [sync_at h hx]
        show fat nJ (setFile _ _ _).files (setFile _ _ _).now = _
        rw [(fat_setFile h hin.1 hin.2 _ nJ).1, if_pos hx]
    · rw [if_neg h00] at h0
      exact absurd h0 h00
theorem set_self {k : Dk} {x : Int} {f : FileD} (h0 : 0 ≤ x) (h1 : x < k.files.length) (h : fileAt k.files x = f) : setFile k x f = k := by
  have hl : x.toNat < k.files.length := by omega
  unfold fileAt at h
  rw [List.getD_eq_getElem?_getD, List.getElem?_eq_getElem hl, Option.getD_some] at h
  subst h
  unfold setFile
  rw [List.set_getElem_self]
theorem open_fixed {s : Dk} (hs : rightK s = true) {b : List UInt8} {zs : List LeaseR} {n : Int} (hb : readJ b = (zs, n, 0)) (hf : fat nJ s.files s.now = ⟨b, b.length⟩) : openJ (syncDirS (removeS s nK).1) = (syncDirS (removeS s nK).1, 0) := by
  have hrr := remove_right s nK
  have hq := (remove_fat hs (m := nK) (n := nJ) (by decide)).1
  have hno : findK (removeS s nK).1.now nK = none := by
    unfold removeS
    rw [good_id hs]
    cases hx : findK s.now nK with
    | none => exact hx
    | some x =>
      show findK (orderedS _).now nK = none
      show findK ((dropK s.now nK).map (renE _)) nK = none
      rw [find_ren, find_drop_same]
      rfl
  generalize (removeS s nK).1 = r at *
  have hd := syncDir_right r
  have hfd := (syncDir_fat hrr nJ).1
  have hkept := syncDir_kept r
  have hno2 : findK (syncDirS r).now nK = none := by
    unfold syncDirS
    rw [good_id hrr]
    show findK (r.now.map (renE _)) nK = none
    rw [find_ren, hno]
    rfl
  rw [hq, hf] at hfd
  generalize syncDirS r = d at *
  have hget : (getS d nJ).1 = b := by rw [fat_get hd, hfd]
  have hsync : (syncS d nJ).1 = d := by
    cases hx : findK d.now nJ with
    | none => rw [sync_no hd hx]
    | some x =>
      rw [sync_at hd hx]
      have hin := find_in (right_inn hd).1 hx
      rw [fat_some hx] at hfd
      exact set_self hin.1 hin.2 (by rw [hfd])
  have hrem : (removeS d nK).1 = d := by
    unfold removeS
    rw [good_id hd, hno2]
  have hsd : syncDirS d = d := by
    unfold syncDirS
    rw [good_id hd]
    have : (⟨d.files, d.now, d.now⟩ : Dk) = d := by
      rw [show d.now = d.kept from hkept.symm]
      obtain ⟨a, b, c⟩ := d
      dsimp only at hkept
      subst hkept
      rfl
    rw [this, ordered_right hd]
  unfold openJ
  rw [hget, hb]
  show (if (0 : Int) = 4 then _ else if (0 : Int) = 0 then _ else _) = _
  rw [if_neg (by decide), if_pos rfl, hsync, hrem, hsd]
/-- What was opened is opened as it is. -/
theorem open_again (k : Dk) (h0 : (openJ k).2 = 0) : openJ (openJ k).1 = ((openJ k).1, 0) := by
  rw [← open_good k] at h0 ⊢
  obtain ⟨s, b, zs, n, h1, h2, h3, h4⟩ := open_form (good_right k) h0
  rw [h4]
  exact open_fixed h1 h2 h3
theorem open_right (k : Dk) : rightK (openJ k).1 = true := by
  unfold openJ
  split
  · exact syncDir_right _
  split
  · exact syncDir_right _
  · exact right0
end Go.Proofs.YtkbidfohcanijaaGreat
