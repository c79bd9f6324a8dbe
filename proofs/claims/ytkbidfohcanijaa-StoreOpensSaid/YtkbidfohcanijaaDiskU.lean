/- Disks: what the document's layer 8 answers, third part: what is done to a disk. -/
import Derived.Test.YtkbidfohcanijaaDiskT
import Derived.Test.YtkbidfohcanijaaDiskZ
namespace Go.Proofs.Ytkbidfohcanijaa
open BoEng Go
set_option maxRecDepth 100000
attribute [-simp] List.map_take List.map_drop List.length_flatMap
set_option linter.unusedSimpArgs false
set_option linter.unusedVariables false

def rstI (k : Dk) (n : Int) (f : FileD) (i : Nat) (S : PS) : Prop :=
  i ≤ k.files.length ∧ S.t 1 = .d (.int .i64 n) ∧ S.t 3 = .cptr (cells k.d) ∧ S.t 5 = .cptr (cells f.d) ∧ S.t 6 = .ptr (FO + 6) 1 0 ∧ S.t 8 = .d (.int .i64 i) ∧ S.t 7 = .d (.slice (((k.files.set n.toNat f).take i).map FileD.d)) ∧ S.own (.t 7 0) = true ∧
    S.fo = FO ∧ S.gen (FO + 6) = 1 ∧ S.box (FO + 6) = [.d (.slice []), .d (.slice []), .d (.slice [])]
theorem ref08Set (k : Dk) (n : Int) (f : FileD) (hk : k.files.length ≤ 100000) (h0 : 0 ≤ n) : Holds Try.prog 105 [.d k.d, .d (.int .i64 n), .d f.d] (.d (setFile k n f).d) (fun _ => false) := by
  refine Holds.by (by kernel_rfl) Try.func105 (by kernel_rfl) rfl [20003, 20005, 19, 23] (by simp) (by kernel_rfl) (by kernel_rfl) rfl ?_
  conv in ccs _ => cbv
  obtain ⟨m, rfl⟩ := Int.eq_ofNat_of_zero_le h0
  simp (config := sc) (disch := first | exact dd | fail) [std]
  refine lp (rstI k m f) (fun i => k.files.length - i) 0 ⟨by omega, by simp, by simp, by simp, by simp, by simp, by simp, by simp, by simp, by simp, by simp⟩ ?_
  rintro i S ⟨hi, e1, e3, e5, e6, e8, e7, o7, efo, g6, b6⟩
  rw [Int.toNat_natCast] at e7
  by_cases hlt : i < k.files.length
  · have k6 : (i : Int) < k.files.length := by omega
    have hls : i < (k.files.set m f).length := by simpa using hlt
    have ht : (k.files.set m f).take (i + 1) = (k.files.set m f).take i ++ [(k.files.set m f)[i]] := List.take_succ_eq_append_getElem hls
    rw [List.getElem_set] at ht
    have hm2 := congrArg (List.map FileD.d) ht
    rw [List.map_append] at hm2
    have hln : ((k.files.set m f).take i).length = i := by simp; omega
    obtain ⟨T, hT⟩ : ∃ T, T = (k.files.set m f).take i := ⟨_, rfl⟩
    rw [← hT] at e7 hm2 hln
    have hb : (i + 1) * 32 ≤ 140737488355328 := by omega
    by_cases hc : m = i
    · have hc' : (i = m) = True := by simp; omega
      rw [if_pos hc] at hm2
      simp (config := sc) (disch := first | exact dd | fail) [std, e1, e3, e5, e6, e7, e8, o7, efo, g6, b6, k6, hc', hln]
      exact nxt_of (i + 1) ⟨by omega, by simp (config := sc) (disch := first | exact dd | fail) [std, e1], by simp (config := sc) (disch := first | exact dd | fail) [std, e3], by simp (config := sc) (disch := first | exact dd | fail) [std, e5], by simp (config := sc) (disch := first | exact dd | fail) [std, e6], by simp, by rw [Int.toNat_natCast, hm2]; simp (config := sc) (disch := first | exact dd | fail) [std, FileD.d], by simp (config := sc) (disch := first | exact dd | fail) [std], by simp (config := sc) (disch := first | exact dd | fail) [std, efo], by simp (config := sc) (disch := first | exact dd | fail) [std, g6, efo], by simp (config := sc) (disch := first | exact dd | fail) [std, b6, efo]⟩ (by omega)
    · have hc' : ¬ (i : Int) = m := by omega
      rw [if_neg hc] at hm2
      simp (config := sc) (disch := first | exact dd | fail) [std, e1, e3, e5, e6, e7, e8, o7, efo, g6, b6, k6, hc', hln]
      exact nxt_of (i + 1) ⟨by omega, by simp (config := sc) (disch := first | exact dd | fail) [std, e1], by simp (config := sc) (disch := first | exact dd | fail) [std, e3], by simp (config := sc) (disch := first | exact dd | fail) [std, e5], by simp (config := sc) (disch := first | exact dd | fail) [std, e6], by simp, by rw [Int.toNat_natCast, hm2]; simp (config := sc) (disch := first | exact dd | fail) [std, FileD.d], by simp (config := sc) (disch := first | exact dd | fail) [std], by simp (config := sc) (disch := first | exact dd | fail) [std, efo], by simp (config := sc) (disch := first | exact dd | fail) [std, g6, efo], by simp (config := sc) (disch := first | exact dd | fail) [std, b6, efo]⟩ (by omega)
  · have k6 : ¬ (i : Int) < k.files.length := by omega
    have ht : (k.files.set m f).take i = k.files.set m f := List.take_of_length_le (by simp; omega)
    rw [ht] at e7
    simp (config := sc) (disch := first | exact dd | fail) [std, e1, e3, e5, e6, e7, e8, o7, efo, g6, b6, k6, setFile, Dk.d]

theorem ref08SyncDir (k : Dk) (hk : okK k) : Holds Try.prog 92 [.d k.d] (.d (syncDirS k).d) (fun _ => false) := by
  refine Holds.by (by kernel_rfl) Try.func92 (by kernel_rfl) rfl [] (by simp) (by kernel_rfl) (by kernel_rfl) rfl ?_
  conv in ccs _ => cbv
  obtain ⟨hk1, hk2⟩ := hk
  have q := ref08Good k hk1 (by omega)
  have hrg := good_right k
  have hok := ok_good ⟨hk1, hk2⟩
  unfold syncDirS
  generalize goodK k = d at *
  have hdd : d.d = .agg [.slice (d.files.map FileD.d), .slice (d.now.map Ent.d), .slice (d.kept.map Ent.d)] := rfl
  have hin := right_in hrg
  have hlen := (right_lens hrg).2.1
  have q2 := ref08Ordered ⟨d.files, d.now, d.now⟩ ⟨hok.1.1, hok.1.2.1, hok.1.2.1⟩ ⟨hin.1, hin.1⟩ (by simp; omega)
  simp (config := sc) (disch := first | exact dd | fail) [std, Dk.d]
  refine o_call rfl rfl q rfl rfl ?_
  simp (config := sc) (disch := first | exact dd | fail) [std, hdd]
  refine o_call rfl rfl q2 rfl rfl ?_
  simp (config := sc) (disch := first | exact dd | fail) [std, Dk.d]

theorem ref08Remove (k : Dk) (hk : okK k) (name : List UInt8) : Holds Try.prog 91 [.d k.d, .d (.str name)] (.tup [.d (removeS k name).1.d, .d (.int .i64 (removeS k name).2)]) (fun _ => false) := by
  refine Holds.by (by kernel_rfl) Try.func91 (by kernel_rfl) rfl [] (by simp) (by kernel_rfl) (by kernel_rfl) rfl ?_
  conv in ccs _ => cbv
  obtain ⟨hk1, hk2⟩ := hk
  have q := ref08Good k hk1 (by omega)
  have hrg := good_right k
  have hok := ok_good ⟨hk1, hk2⟩
  unfold removeS
  generalize goodK k = d at *
  have hll := right_lens hrg
  have hdd : d.d = .agg [.slice (d.files.map FileD.d), .slice (d.now.map Ent.d), .slice (d.kept.map Ent.d)] := rfl
  have hin := right_in hrg
  have q1 := ref08Find d.now name (by omega)
  unfold findI at q1
  have q2 := ref08Without d.now name (by omega)
  have hdl := drop_len d.now name
  have q3 := ref08Ordered ⟨d.files, dropK d.now name, d.kept⟩ ⟨hok.1.1, sized_drop hok.1.2.1 name, hok.1.2.2⟩ ⟨inK_drop hin.1 name, hin.2⟩ (by simp; omega)
  cases hx : findK d.now name with
  | none =>
    rw [hx] at q1
    simp (config := sc) (disch := first | exact dd | fail) [std, Dk.d]
    refine o_call rfl rfl q rfl rfl ?_
    simp (config := sc) (disch := first | exact dd | fail) [std, hdd]
    refine o_call rfl rfl q1 rfl rfl ?_
    simp (config := sc) (disch := first | exact dd | fail) [std]
  | some x =>
    rw [hx] at q1
    have hrx := find_rng hrg hx
    have hx0 : ¬ x < 0 := by omega
    simp (config := sc) (disch := first | exact dd | fail) [std, Dk.d]
    refine o_call rfl rfl q rfl rfl ?_
    simp (config := sc) (disch := first | exact dd | fail) [std, hdd]
    refine o_call rfl rfl q1 rfl rfl ?_
    simp (config := sc) (disch := first | exact dd | fail) [std, hx0]
    refine o_call rfl rfl q2 rfl rfl ?_
    simp (config := sc) (disch := first | exact dd | fail) [std]
    refine o_call rfl rfl q3 rfl rfl ?_
    simp (config := sc) (disch := first | exact dd | fail) [std, Dk.d]

theorem ref08Sync (k : Dk) (hk : okK k) (name : List UInt8) : Holds Try.prog 90 [.d k.d, .d (.str name)] (.tup [.d (syncS k name).1.d, .d (.int .i64 (syncS k name).2)]) (fun _ => false) := by
  refine Holds.by (by kernel_rfl) Try.func90 (by kernel_rfl) rfl [] (by simp) (by kernel_rfl) (by kernel_rfl) rfl ?_
  conv in ccs _ => cbv
  obtain ⟨hk1, hk2⟩ := hk
  have q := ref08Good k hk1 (by omega)
  have hrg := good_right k
  have hok := ok_good ⟨hk1, hk2⟩
  unfold syncS
  generalize goodK k = d at *
  have hll := right_lens hrg
  have hdd : d.d = .agg [.slice (d.files.map FileD.d), .slice (d.now.map Ent.d), .slice (d.kept.map Ent.d)] := rfl
  have q1 := ref08Find d.now name (by omega)
  unfold findI at q1
  cases hx : findK d.now name with
  | none =>
    rw [hx] at q1
    simp (config := sc) (disch := first | exact dd | fail) [std, Dk.d]
    refine o_call rfl rfl q rfl rfl ?_
    simp (config := sc) (disch := first | exact dd | fail) [std, hdd]
    refine o_call rfl rfl q1 rfl rfl ?_
    simp (config := sc) (disch := first | exact dd | fail) [std]
  | some x =>
    rw [hx] at q1
    have hrx := find_rng hrg hx
    obtain ⟨n, rfl⟩ := Int.eq_ofNat_of_zero_le hrx.1
    have hnl : n < d.files.length := by omega
    have hfa : fileAt d.files (n : Int) = d.files[n] := by simp [fileAt, List.getD_eq_getElem?_getD, hnl]
    have hdl := hok.1.1.2 _ (List.getElem_mem hnl)
    simp only [hfa]
    have q2 := ref08Set d n ⟨d.files[n].data, d.files[n].data.length⟩ (by omega) (by omega)
    simp (config := sc) (disch := first | exact dd | fail) [std, Dk.d]
    refine o_call rfl rfl q rfl rfl ?_
    simp (config := sc) (disch := first | exact dd | fail) [std, hdd]
    refine o_call rfl rfl q1 rfl rfl ?_
    simp (config := sc) (disch := first | exact dd | fail) [std]
    refine o_call rfl rfl q2 rfl rfl ?_
    simp (config := sc) (disch := first | exact dd | fail) [std, Dk.d]

theorem ref08Cut (k : Dk) (hk : okK k) (name : List UInt8) (m : Int) : Holds Try.prog 88 [.d k.d, .d (.str name), .d (.int .i64 m)] (.tup [.d (cutS k name m).1.d, .d (.int .i64 (cutS k name m).2)]) (fun _ => false) := by
  refine Holds.by (by kernel_rfl) Try.func88 (by kernel_rfl) rfl [] (by simp) (by kernel_rfl) (by kernel_rfl) rfl ?_
  conv in ccs _ => cbv
  obtain ⟨hk1, hk2⟩ := hk
  have q := ref08Good k hk1 (by omega)
  have hrg := good_right k
  have hok := ok_good ⟨hk1, hk2⟩
  unfold cutS
  generalize goodK k = d at *
  have hll := right_lens hrg
  have hdd : d.d = .agg [.slice (d.files.map FileD.d), .slice (d.now.map Ent.d), .slice (d.kept.map Ent.d)] := rfl
  have q1 := ref08Find d.now name (by omega)
  unfold findI at q1
  cases hx : findK d.now name with
  | none =>
    rw [hx] at q1
    simp (config := sc) (disch := first | exact dd | fail) [std, Dk.d]
    refine o_call rfl rfl q rfl rfl ?_
    simp (config := sc) (disch := first | exact dd | fail) [std, hdd]
    refine o_call rfl rfl q1 rfl rfl ?_
    simp (config := sc) (disch := first | exact dd | fail) [std]
  | some x =>
    rw [hx] at q1
    have hrx := find_rng hrg hx
    obtain ⟨n, rfl⟩ := Int.eq_ofNat_of_zero_le hrx.1
    have hnl : n < d.files.length := by omega
    have hfa : fileAt d.files (n : Int) = d.files[n] := by simp [fileAt, List.getD_eq_getElem?_getD, hnl]
    have hdl := hok.1.1.2 _ (List.getElem_mem hnl)
    simp only [hfa]
    by_cases hm : m < 0
    · simp (config := sc) (disch := first | exact dd | fail) [std, Dk.d]
      refine o_call rfl rfl q rfl rfl ?_
      simp (config := sc) (disch := first | exact dd | fail) [std, hdd]
      refine o_call rfl rfl q1 rfl rfl ?_
      simp (config := sc) (disch := first | exact dd | fail) [std, hm]
    · by_cases hm2 : (d.files[n].data.length : Int) < m
      · simp (config := sc) (disch := first | exact dd | fail) [std, Dk.d]
        refine o_call rfl rfl q rfl rfl ?_
        simp (config := sc) (disch := first | exact dd | fail) [std, hdd]
        refine o_call rfl rfl q1 rfl rfl ?_
        simp (config := sc) (disch := first | exact dd | fail) [std, hm, hm2]
      · obtain ⟨j, rfl⟩ := Int.eq_ofNat_of_zero_le (show 0 ≤ m by omega)
        have q2 := ref08Set d n ⟨d.files[n].data.take j, j⟩ (by omega) (by omega)
        have hm3 : ¬ d.files[n].data.length < j := by omega
        simp (config := sc) (disch := first | exact dd | fail) [std, Dk.d]
        refine o_call rfl rfl q rfl rfl ?_
        simp (config := sc) (disch := first | exact dd | fail) [std, hdd]
        refine o_call rfl rfl q1 rfl rfl ?_
        simp (config := sc) (disch := first | exact dd | fail) [std, hm, hm2]
        refine o_call rfl rfl q2 rfl rfl ?_
        simp (config := sc) (disch := first | exact dd | fail) [std, Dk.d, hm3]

end Go.Proofs.Ytkbidfohcanijaa
