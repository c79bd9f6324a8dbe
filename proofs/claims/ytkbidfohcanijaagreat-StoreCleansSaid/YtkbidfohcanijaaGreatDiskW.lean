/- Disks: what the program's disk answers, fourth part: memory of one's own, files found. -/
import Derived.Test.YtkbidfohcanijaaGreatDiskO
namespace Go.Proofs.YtkbidfohcanijaaGreat
open BoEng Go
set_option maxRecDepth 100000
attribute [-simp] List.map_take List.map_drop List.length_flatMap
set_option linter.unusedSimpArgs false
set_option linter.unusedVariables false

theorem diskOrderedB {fo : Nat} {gl : Nat → Nat} (k : Dk) (hk : sizedK k) (hin : inD k) (hl : k.now.length + k.kept.length ≤ 100000) :
    Meets Tryz.prog fo gl 33 [.d k.d] [] (.pa (dkB (fo + 6) (gl (fo + 6) + 1 + (cameS (k.now ++ k.kept)).length) (orderedS k))) (fun _ => false) [fU (fo + 6) (gl (fo + 6) + 1 + (cameS (k.now ++ k.kept)).length) (orderedS k).files] := by
  refine Meets.by (by kernel_rfl) Tryz.func33 (by kernel_rfl) rfl [20001, 80006, 1006005, 80007, 40012, 40020] (by simp) (by kernel_rfl) (by kernel_rfl) (by simp [namesIn, namesL, fU, dkB, fBox, (fun n => Nat.add_pos_left (Nat.succ_pos (gl (fo + 6))) n : ∀ n, 0 < gl (fo + 6) + 1 + n)]) (by simp [namesIn, namesL, fU, dkB, fBox, (fun n => Nat.add_pos_left (Nat.succ_pos (gl (fo + 6))) n : ∀ n, 0 < gl (fo + 6) + 1 + n)]) (by simp [fU, dkB, fBox, (fun n => Nat.add_pos_left (Nat.succ_pos (gl (fo + 6))) n : ∀ n, 0 < gl (fo + 6) + 1 + n)]) ?_
  conv in ccs _ => cbv
  have q1 := fun gl2 => diskListM (fo + 7) (gl (fo + 7) + 1) (fo + 6) (gl (fo + 6) + 1) (fo := fo + 2000) (gl := gl2) (by omega) (by omega) (by omega) (by omega) (by omega) k.now [] [] k.files [] (by simp; omega) hin.1 hk.1
  have hw1 := wasL_len [] k.now
  simp only [List.length_nil, Nat.zero_add] at hw1
  have q2 := fun gl2 => diskListM (fo + 7) (gl (fo + 7) + 1) (fo + 6) (gl (fo + 6) + 1 + ((wasL [] k.now).length - 0)) (fo := fo + 2000) (gl := gl2) (by omega) (by omega) (by omega) (by omega) (by omega) k.kept (k.now.map (renE (wasL [] k.now))) [] k.files (wasL [] k.now) (by omega) hin.2 hk.1
  simp (config := sc) (disch := first | exact dd | fail) [std]
  refine o_cb (fo + 2000) rfl rfl (q1 _) rfl (by simp (config := sc) (disch := first | exact dd | fail) [std, oU, fU, oBox, fBox_nil]) ?_
  simp (config := sc) (disch := first | exact dd | fail) [std, oU, fU, oBox, fBox_nil]
  refine o_cb (fo + 2000) rfl rfl (q2 _) rfl ?_ ?_
  · simp (config := sc) (disch := first | exact dd | fail) [std, oU, fU, oBox, fBox_nil]
    omega
  · have hge : (wasL [] k.now).length ≤ (cameS (k.now ++ k.kept)).length := by
      rw [← ordered_parts]
      exact wasL_ge _ _
    have hg2 : gl (fo + 6) + 1 + (wasL [] k.now).length + ((cameS (k.now ++ k.kept)).length - (wasL [] k.now).length) = gl (fo + 6) + 1 + (cameS (k.now ++ k.kept)).length := by omega
    have e1 : (k.now.map (renE (wasL [] k.now))) = k.now.map (renE (cameS (k.now ++ k.kept))) := by
      refine List.map_congr_left fun e he => ?_
      obtain ⟨r, hr⟩ := came_pre k.now k.kept
      have hm : e.file ∈ cameS k.now := mem_came.2 ⟨e, he, rfl⟩
      rw [wasL_came, hr]
      unfold renE
      rw [posC_app hm]
    have e2 := congrArg (List.map Ent.d) e1
    simp only [List.map_map] at e2
    simp (config := sc) (disch := first | exact dd | fail) [std, oU, fU, oBox, fBox_nil, ordered_parts, hg2, dkB, orderedS, e2]
    done

theorem right_in {k : Dk} (h : rightK k = true) : inD k := by
  obtain ⟨h1, h2, h3, h4, h5⟩ := rightK_iff.1 h
  exact ⟨named_in h2, named_in h3⟩
theorem diskOwn (k : Dk) (hk : sizedK k) (hl : k.now.length + k.kept.length ≤ 100000) : Holds Tryz.prog 32 [.d k.d] (.d (goodK k).d) (fun _ => false) := by
  refine Holds.by (by kernel_rfl) Tryz.func32 (by kernel_rfl) rfl [20001] (by simp) (by kernel_rfl) (by kernel_rfl) rfl ?_
  conv in ccs _ => cbv
  have q := diskRight k hk
  cases hr : rightK k with
  | true =>
    rw [hr] at q
    have q2 := diskOrdered k hk (right_in hr) hl
    rw [ordered_right hr] at q2
    rw [good_id hr]
    simp (config := sc) (disch := first | exact dd | fail) [std]
    refine o_call rfl rfl q rfl rfl ?_
    simp (config := sc) (disch := first | exact dd | fail) [std]
    refine o_call rfl rfl q2 rfl rfl ?_
    simp (config := sc) (disch := first | exact dd | fail) [std, Dk.d]
  | false =>
    have hg : goodK k = dk0 := by simp [goodK, hr]
    rw [hr] at q
    rw [hg]
    simp (config := sc) (disch := first | exact dd | fail) [std]
    refine o_call rfl rfl q rfl rfl ?_
    simp (config := sc) (disch := first | exact dd | fail) [std, Dk.d, dk0]
/-- The files' box of a disk of one's own. -/
theorem diskOwnB {fo : Nat} {gl : Nat → Nat} (k : Dk) (hk : sizedK k) (hl : k.now.length + k.kept.length ≤ 100000) :
    ∃ i : Nat × Nat, (fo ≤ i.1 ∧ i.1 < fo + 2000 ∧ 0 < i.2) ∧ Meets Tryz.prog fo gl 32 [.d k.d] [] (.pa (dkB i.1 i.2 (goodK k))) (fun _ => false) [fU i.1 i.2 (goodK k).files] := by
  have q := diskRight k hk
  cases hr : rightK k with
  | true =>
    rw [hr] at q
    have q2 := fun gl2 => diskOrderedB (fo := fo + 1000) (gl := gl2) k hk (right_in hr) hl
    refine ⟨(fo + 1000 + 6, gl (fo + 1000 + 6) + 1 + 1 + (cameS (k.now ++ k.kept)).length), ⟨by simp; omega, by simp, by simp; omega⟩, ?_⟩
    simp only
    rw [good_id hr]
    rw [ordered_right hr] at q2
    refine Meets.by (by kernel_rfl) Tryz.func32 (by kernel_rfl) rfl [20001, 1006005, 40008] (by simp) (by kernel_rfl) (by kernel_rfl) (by simp [namesIn, namesL, fU, dkB, fBox, (fun n => Nat.add_pos_left (Nat.succ_pos (gl (fo + 1000 + 6) + 1)) n : ∀ n, 0 < gl (fo + 1000 + 6) + 1 + 1 + n)]) (by simp [namesIn, namesL, fU, dkB, fBox, (fun n => Nat.add_pos_left (Nat.succ_pos (gl (fo + 1000 + 6) + 1)) n : ∀ n, 0 < gl (fo + 1000 + 6) + 1 + 1 + n)]) (by simp [fU, dkB, fBox, (fun n => Nat.add_pos_left (Nat.succ_pos (gl (fo + 1000 + 6) + 1)) n : ∀ n, 0 < gl (fo + 1000 + 6) + 1 + 1 + n)]) ?_
    conv in ccs _ => cbv
    simp (config := sc) (disch := first | exact dd | fail) [std]
    refine o_call rfl rfl q rfl rfl ?_
    simp (config := sc) (disch := first | exact dd | fail) [std]
    refine o_cb (fo + 1000) rfl rfl (q2 _) rfl (by simp (config := sc) (disch := first | exact dd | fail) [std]) ?_
    simp (config := sc) (disch := first | exact dd | fail) [std, dkB, fU]
  | false =>
    have hg : goodK k = dk0 := by simp [goodK, hr]
    rw [hr] at q
    refine ⟨(fo + 6, gl (fo + 6) + 1), ⟨by simp, by simp, by simp⟩, ?_⟩
    simp only
    rw [hg]
    refine Meets.by (by kernel_rfl) Tryz.func32 (by kernel_rfl) rfl [20001, 1006005, 40008] (by simp) (by kernel_rfl) (by kernel_rfl) (by simp [namesIn, namesL, fU, dkB, fBox]) (by simp [namesIn, namesL, fU, dkB, fBox]) (by simp [fU, dkB, fBox]) ?_
    conv in ccs _ => cbv
    simp (config := sc) (disch := first | exact dd | fail) [std]
    refine o_call rfl rfl q rfl rfl ?_
    simp (config := sc) (disch := first | exact dd | fail) [std, dkB, fU, dk0, fBox_nil]

theorem find_rng {k : Dk} (h : rightK k = true) {name : List UInt8} {x : Int} (hx : findK k.now name = some x) : 0 ≤ x ∧ x < k.files.length := by
  unfold findK at hx
  simp only [Option.map_eq_some_iff] at hx
  obtain ⟨e, he, rfl⟩ := hx
  exact (right_in h).1 e (List.mem_of_find?_eq_some he)
theorem diskFindD {fo : Nat} {gl : Nat → Nat} (nd g : Nat) (hnd : nd < fo) (hg : 0 < g) (k : Dk) (hk : sizedK k) (hr : rightK k = true) (name : List UInt8) :
    Meets Tryz.prog fo gl 64 [.ptr nd g 0, .d (.str name)] [⟨nd, g, (cells k.d).map .d, fun _ => false⟩] (match findK k.now name with | some x => .cptr (cells (fileAt k.files x).d) | none => .d (.opq (.pointer none))) (fun _ => false) [⟨nd, g, (cells k.d).map .d, fun _ => false⟩] := by
  obtain ⟨hf1, hf2, hf3⟩ := found_iff (named_srt (rightK_iff.1 hr).2.1) (name := name)
  have hl := hk.2.1.1
  have q := diskAt k.now name (by omega)
  cases hfo : foundK k.now name with
  | false =>
    rw [hf3 hfo]
    rw [hfo] at q
    refine Meets.by (by kernel_rfl) Tryz.func64 (by kernel_rfl) rfl [70011, 70021, 70025] (by simp) (by kernel_rfl) (by kernel_rfl) (by simp [namesIn, namesL, hg]) (by simp [namesIn, namesL, hg]) (by simp [hg]) ?_
    conv in ccs _ => cbv
    simp (config := sc) (disch := first | exact dd | fail) [std]
    refine o_call rfl rfl q rfl rfl ?_
    simp (config := sc) (disch := first | exact dd | fail) [std]
  | true =>
    have hx := hf2 hfo
    rw [hx]
    rw [hfo] at q
    have hrg := find_rng hr hx
    have hat : atK k.now name < k.now.length := by
      simp only [foundK, Bool.and_eq_true, decide_eq_true_eq] at hfo
      exact hfo.1
    rw [List.getD_eq_getElem?_getD, List.getElem?_eq_getElem hat, Option.getD_some] at hrg ⊢
    obtain ⟨n, hn⟩ := Int.eq_ofNat_of_zero_le hrg.1
    rw [hn] at hrg ⊢
    have hnl : n < k.files.length := by omega
    have hfa : fileAt k.files (n : Int) = k.files[n] := by simp [fileAt, List.getD_eq_getElem?_getD, hnl]
    simp only [hfa]
    refine Meets.by (by kernel_rfl) Tryz.func64 (by kernel_rfl) rfl [70011, 70021, 70025, 50027, 50029] (by simp) (by kernel_rfl) (by kernel_rfl) (by simp [namesIn, namesL, hg]) (by simp [namesIn, namesL, hg]) (by simp [hg]) ?_
    conv in ccs _ => cbv
    simp (config := sc) (disch := first | exact dd | fail) [std]
    refine o_call rfl rfl q rfl rfl ?_
    simp (config := sc) (disch := first | exact dd | fail) [std, hn]
theorem diskFindB {fo : Nat} {gl : Nat → Nat} (nd g nf gf : Nat) (hnd : nd < fo) (hnf : nf < fo) (hne : nd ≠ nf) (hg : 0 < g) (hgf : 0 < gf) (k : Dk) (hk : sizedK k) (hr : rightK k = true) (name : List UInt8) :
    Meets Tryz.prog fo gl 64 [.ptr nd g 0, .d (.str name)] [⟨nd, g, dkB nf gf k, fun _ => false⟩, fU nf gf k.files] (match findK k.now name with | some x => .ptr nf gf (x.toNat * 2) | none => .d (.opq (.pointer none))) (fun _ => false) [⟨nd, g, dkB nf gf k, fun _ => false⟩, fU nf gf k.files] := by
  obtain ⟨hf1, hf2, hf3⟩ := found_iff (named_srt (rightK_iff.1 hr).2.1) (name := name)
  have hl := hk.2.1.1
  have q := diskAt k.now name (by omega)
  have hne' : nf ≠ nd := fun e => hne e.symm
  cases hfo : foundK k.now name with
  | false =>
    rw [hf3 hfo]
    rw [hfo] at q
    refine Meets.by (by kernel_rfl) Tryz.func64 (by kernel_rfl) rfl [70011, 70021, 70025] (by simp) (by kernel_rfl) (by kernel_rfl) (by simp [namesIn, namesL, hg, hgf, fU, dkB, fBox]) (by simp [namesIn, namesL, hg, hgf, fU, dkB, fBox]) (by simp [hg, hgf, fU, dkB, fBox]) ?_
    conv in ccs _ => cbv
    simp (config := sc) (disch := first | exact dd | fail) [std, dkB]
    refine o_call rfl rfl q rfl rfl ?_
    simp (config := sc) (disch := first | exact dd | fail) [std, dkB, fU, hne, hne']
  | true =>
    have hx := hf2 hfo
    rw [hx]
    rw [hfo] at q
    have hrg := find_rng hr hx
    have hat : atK k.now name < k.now.length := by
      simp only [foundK, Bool.and_eq_true, decide_eq_true_eq] at hfo
      exact hfo.1
    rw [List.getD_eq_getElem?_getD, List.getElem?_eq_getElem hat, Option.getD_some] at hrg ⊢
    obtain ⟨n, hn⟩ := Int.eq_ofNat_of_zero_le hrg.1
    rw [hn] at hrg ⊢
    have hnl : n < k.files.length := by omega
    have hfb : (fBox k.files).length = k.files.length * 2 := by rw [fBox_len]; omega
    refine Meets.by (by kernel_rfl) Tryz.func64 (by kernel_rfl) rfl [70011, 70021, 70025, 50027, 50029] (by simp) (by kernel_rfl) (by kernel_rfl) (by simp [namesIn, namesL, hg, hgf, fU, dkB, fBox]) (by simp [namesIn, namesL, hg, hgf, fU, dkB, fBox]) (by simp [hg, hgf, fU, dkB, fBox]) ?_
    conv in ccs _ => cbv
    simp (config := sc) (disch := first | exact dd | fail) [std, dkB]
    refine o_call rfl rfl q rfl rfl ?_
    simp (config := sc) (disch := first | exact dd | fail) [std, hn, dkB, fU, hne, hne', hfb]

end Go.Proofs.YtkbidfohcanijaaGreat
