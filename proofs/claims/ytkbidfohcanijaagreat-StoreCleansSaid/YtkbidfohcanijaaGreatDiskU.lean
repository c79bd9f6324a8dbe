/- Disks: what the document's layer 8 answers, third part: what is done to a disk. -/
import Derived.Test.YtkbidfohcanijaaGreatDiskT
import Derived.Test.YtkbidfohcanijaaGreatDiskZ
namespace Go.Proofs.YtkbidfohcanijaaGreat
open BoEng Go
set_option maxRecDepth 100000
attribute [-simp] List.map_take List.map_drop List.length_flatMap
set_option linter.unusedSimpArgs false
set_option linter.unusedVariables false

def withO (l : List Ent) (name : List UInt8) (x : Int) (i : Nat) : List Ent := if atK l name < i then l.take (atK l name) ++ ⟨name, x⟩ :: (l.take i).drop (atK l name) else l.take i
def rwthI (l : List Ent) (name : List UInt8) (x : Int) (i : Nat) (S : PS) : Prop :=
  i ≤ l.length ∧ S.t 0 = .d (.slice (l.map Ent.d)) ∧ S.t 1 = .d (.str name) ∧ S.t 2 = .d (.int .i64 x) ∧ S.t 9 = .d (.int .i64 i) ∧ S.t 8 = .d (.bool (decide (atK l name < i))) ∧ S.t 7 = .d (.slice ((withO l name x i).map Ent.d)) ∧ S.own (.t 7 0) = true
theorem withO_len (l : List Ent) (name : List UInt8) (x : Int) (i : Nat) (hi : i ≤ l.length) : (withO l name x i).length ≤ l.length + 1 := by
  have := atK_le l name
  unfold withO
  split
  · simp; omega
  · simp; omega
theorem ref08With (l : List Ent) (name : List UInt8) (x : Int) (hl : l.length ≤ 90000) (hs : Srt l) (hn : ∀ e ∈ l, e.name ≠ name) : Holds Tryz.prog 99 [.d (.slice (l.map Ent.d)), .d (.str name), .d (.int .i64 x)] (.d (.slice ((putK l name x).map Ent.d))) (fun _ => false) := by
  refine Holds.by (by kernel_rfl) Tryz.func99 (by kernel_rfl) rfl [27, 33, 42] (by simp) (by kernel_rfl) (by kernel_rfl) rfl ?_
  conv in ccs _ => cbv
  have hal := atK_le l name
  simp (config := sc) (disch := first | exact dd | fail) [std]
  refine lp (rwthI l name x) (fun i => l.length - i) 0 ⟨by omega, by simp [withO]⟩ ?_
  rintro i S ⟨hi, e0, e1, e2, e9, e8, e7, o7⟩
  have hwl := withO_len l name x i hi
  by_cases hlt : i < l.length
  · have k6 : (i : Int) < l.length := by omega
    have hne := hn _ (List.getElem_mem hlt)
    rcases Nat.lt_trichotomy (atK l name) i with h | h | h
    · have hst : withO l name x (i + 1) = withO l name x i ++ [l[i]] := by
        unfold withO
        rw [if_pos (by omega), if_pos h, List.take_succ_eq_append_getElem hlt, List.drop_append_of_le_length (by simp; omega)]
        simp
      have hd2 : atK l name < i + 1 := by omega
      rw [decide_eq_true h] at e8
      simp (config := sc) (disch := first | exact dd | fail) [std, e0, e1, e2, e7, e8, e9, o7, k6]
      exact nxt_of (i + 1) ⟨by omega, by simp (config := sc) (disch := first | exact dd | fail) [*, std, hst, hd2, Ent.d]⟩ (by omega)
    · have hlg : strLt name l[i].name = true := by
        have h1 := atK_at (l := l) (name := name) (by omega)
        simp only [h] at h1
        exact lt_tri _ _ h1 hne
      have hle : strLt l[i].name name = false := lt_asymm hlg
      have hst : withO l name x (i + 1) = withO l name x i ++ [⟨name, x⟩] ++ [l[i]] := by
        unfold withO
        rw [if_pos (by omega), if_neg (by omega), h, List.take_succ_eq_append_getElem hlt, List.drop_append_of_le_length (by simp; omega)]
        simp
      have hd2 : atK l name < i + 1 := by omega
      rw [decide_eq_false (by omega)] at e8
      simp (config := sc) (disch := first | exact dd | fail) [std, e0, e1, e2, e7, e8, e9, o7, k6, hle, hne]
      exact nxt_of (i + 1) ⟨by omega, by simp (config := sc) (disch := first | exact dd | fail) [*, std, hst, hd2, Ent.d]⟩ (by omega)
    · have hlg : strLt l[i].name name = true := atK_lt h hlt
      have hst : withO l name x (i + 1) = withO l name x i ++ [l[i]] := by
        unfold withO
        rw [if_neg (by omega), if_neg (by omega), List.take_succ_eq_append_getElem hlt]
      have hd2 : ¬ atK l name < i + 1 := by omega
      rw [decide_eq_false (by omega)] at e8
      simp (config := sc) (disch := first | exact dd | fail) [std, e0, e1, e2, e7, e8, e9, o7, k6, hlg]
      exact nxt_of (i + 1) ⟨by omega, by simp (config := sc) (disch := first | exact dd | fail) [*, std, hst, hd2, Ent.d]⟩ (by omega)
  · have k6 : ¬ (i : Int) < l.length := by omega
    have hil : i = l.length := by omega
    subst hil
    by_cases h : atK l name < l.length
    · have hw : withO l name x l.length = putK l name x := by
        unfold withO putK
        rw [if_pos h, List.take_length]
      rw [decide_eq_true h] at e8
      rw [hw] at e7
      simp (config := sc) (disch := first | exact dd | fail) [std, e0, e1, e2, e7, e8, e9, o7, k6]
    · have hw : putK l name x = withO l name x l.length ++ [⟨name, x⟩] := by
        have : atK l name = l.length := by omega
        unfold withO putK
        rw [if_neg h, this]
        simp
      rw [decide_eq_false h] at e8
      simp (config := sc) (disch := first | exact dd | fail) [std, e0, e1, e2, e7, e8, e9, o7, k6, hw, Ent.d]

def rstI (k : Dk) (n : Int) (f : FileD) (i : Nat) (S : PS) : Prop :=
  i ≤ k.files.length ∧ S.t 1 = .d (.int .i64 n) ∧ S.t 3 = .cptr (cells k.d) ∧ S.t 5 = .cptr (cells f.d) ∧ S.t 6 = .ptr (FO + 6) 1 0 ∧ S.t 8 = .d (.int .i64 i) ∧ S.t 7 = .d (.slice (((k.files.set n.toNat f).take i).map FileD.d)) ∧ S.own (.t 7 0) = true ∧
    S.fo = FO ∧ S.gen (FO + 6) = 1 ∧ S.box (FO + 6) = [.d (.slice []), .d (.slice []), .d (.slice [])]
theorem ref08Set (k : Dk) (n : Int) (f : FileD) (hk : k.files.length ≤ 100000) (h0 : 0 ≤ n) : Holds Tryz.prog 101 [.d k.d, .d (.int .i64 n), .d f.d] (.d (setFile k n f).d) (fun _ => false) := by
  refine Holds.by (by kernel_rfl) Tryz.func101 (by kernel_rfl) rfl [20003, 20005, 19, 23] (by simp) (by kernel_rfl) (by kernel_rfl) rfl ?_
  conv in ccs _ => cbv
  obtain ⟨m, rfl⟩ := Int.eq_ofNat_of_zero_le h0
  simp (config := sc) (disch := first | exact dd | fail) [std]
  refine lp (rstI k m f) (fun i => k.files.length - i) 0 ⟨by omega, by simp, by simp, by simp, by simp, by simp, by simp, by simp, by simp, by simp, by simp⟩ ?_
  rintro i S ⟨hi, e1, e3, e5, e6, e8, e7, o7, efo, g6, b6⟩
  rw [Int.toNat_natCast] at e7
  by_cases hlt : i < k.files.length
  · have k6 : (i : Int) < k.files.length := by omega
    have hls : i < (k.files.set m f).length := by simpa using hlt
    have ht : (k.files.set m f).take (i + 1) = (k.files.set m f).take i ++ [(k.files.set m f)[i]] := List.take_succ_eq_append_getElem hls
    rw [List.getElem_set] at ht
    have hm2 := congrArg (List.map FileD.d) ht
    rw [List.map_append] at hm2
    have hln : ((k.files.set m f).take i).length = i := by simp; omega
    obtain ⟨T, hT⟩ : ∃ T, T = (k.files.set m f).take i := ⟨_, rfl⟩
    rw [← hT] at e7 hm2 hln
    have hb : (i + 1) * 32 ≤ 140737488355328 := by omega
    by_cases hc : m = i
    · have hc' : (i = m) = True := by simp; omega
      rw [if_pos hc] at hm2
      simp (config := sc) (disch := first | exact dd | fail) [std, e1, e3, e5, e6, e7, e8, o7, efo, g6, b6, k6, hc', hln]
      exact nxt_of (i + 1) ⟨by omega, by simp (config := sc) (disch := first | exact dd | fail) [std, e1], by simp (config := sc) (disch := first | exact dd | fail) [std, e3], by simp (config := sc) (disch := first | exact dd | fail) [std, e5], by simp (config := sc) (disch := first | exact dd | fail) [std, e6], by simp, by rw [Int.toNat_natCast, hm2]; simp (config := sc) (disch := first | exact dd | fail) [std, FileD.d], by simp (config := sc) (disch := first | exact dd | fail) [std], by simp (config := sc) (disch := first | exact dd | fail) [std, efo], by simp (config := sc) (disch := first | exact dd | fail) [std, g6, efo], by simp (config := sc) (disch := first | exact dd | fail) [std, b6, efo]⟩ (by omega)
    · have hc' : ¬ (i : Int) = m := by omega
      rw [if_neg hc] at hm2
      simp (config := sc) (disch := first | exact dd | fail) [std, e1, e3, e5, e6, e7, e8, o7, efo, g6, b6, k6, hc', hln]
      exact nxt_of (i + 1) ⟨by omega, by simp (config := sc) (disch := first | exact dd | fail) [std, e1], by simp (config := sc) (disch := first | exact dd | fail) [std, e3], by simp (config := sc) (disch := first | exact dd | fail) [std, e5], by simp (config := sc) (disch := first | exact dd | fail) [std, e6], by simp, by rw [Int.toNat_natCast, hm2]; simp (config := sc) (disch := first | exact dd | fail) [std, FileD.d], by simp (config := sc) (disch := first | exact dd | fail) [std], by simp (config := sc) (disch := first | exact dd | fail) [std, efo], by simp (config := sc) (disch := first | exact dd | fail) [std, g6, efo], by simp (config := sc) (disch := first | exact dd | fail) [std, b6, efo]⟩ (by omega)
  · have k6 : ¬ (i : Int) < k.files.length := by omega
    have ht : (k.files.set m f).take i = k.files.set m f := List.take_of_length_le (by simp; omega)
    rw [ht] at e7
    simp (config := sc) (disch := first | exact dd | fail) [std, e1, e3, e5, e6, e7, e8, o7, efo, g6, b6, k6, setFile, Dk.d]

theorem ref08SyncDir (k : Dk) (hk : okK k) : Holds Tryz.prog 79 [.d k.d] (.d (syncDirS k).d) (fun _ => false) := by
  refine Holds.by (by kernel_rfl) Tryz.func79 (by kernel_rfl) rfl [] (by simp) (by kernel_rfl) (by kernel_rfl) rfl ?_
  conv in ccs _ => cbv
  obtain ⟨hk1, hk2⟩ := hk
  have q := ref08Good k hk1 (by omega)
  have hrg := good_right k
  have hok := ok_good ⟨hk1, hk2⟩
  unfold syncDirS
  generalize goodK k = d at *
  have hdd : d.d = .agg [.slice (d.files.map FileD.d), .slice (d.now.map Ent.d), .slice (d.kept.map Ent.d)] := rfl
  have hin := right_in hrg
  have hlen := (right_lens hrg).2.1
  have q2 := ref08Ordered ⟨d.files, d.now, d.now⟩ ⟨hok.1.1, hok.1.2.1, hok.1.2.1⟩ ⟨hin.1, hin.1⟩ (by simp; omega)
  simp (config := sc) (disch := first | exact dd | fail) [std, Dk.d]
  refine o_call rfl rfl q rfl rfl ?_
  simp (config := sc) (disch := first | exact dd | fail) [std, hdd]
  refine o_call rfl rfl q2 rfl rfl ?_
  simp (config := sc) (disch := first | exact dd | fail) [std, Dk.d]

theorem ref08Remove (k : Dk) (hk : okK k) (name : List UInt8) : Holds Tryz.prog 78 [.d k.d, .d (.str name)] (.tup [.d (removeS k name).1.d, .d (.int .i64 (removeS k name).2)]) (fun _ => false) := by
  refine Holds.by (by kernel_rfl) Tryz.func78 (by kernel_rfl) rfl [] (by simp) (by kernel_rfl) (by kernel_rfl) rfl ?_
  conv in ccs _ => cbv
  obtain ⟨hk1, hk2⟩ := hk
  have q := ref08Good k hk1 (by omega)
  have hrg := good_right k
  have hok := ok_good ⟨hk1, hk2⟩
  unfold removeS
  generalize goodK k = d at *
  have hll := right_lens hrg
  have hdd : d.d = .agg [.slice (d.files.map FileD.d), .slice (d.now.map Ent.d), .slice (d.kept.map Ent.d)] := rfl
  have hin := right_in hrg
  have q1 := ref08Find d.now name (by omega)
  unfold findI at q1
  have q2 := ref08Without d.now name (by omega)
  have hdl := drop_len d.now name
  have q3 := ref08Ordered ⟨d.files, dropK d.now name, d.kept⟩ ⟨hok.1.1, sized_drop hok.1.2.1 name, hok.1.2.2⟩ ⟨inK_drop hin.1 name, hin.2⟩ (by simp; omega)
  cases hx : findK d.now name with
  | none =>
    rw [hx] at q1
    simp (config := sc) (disch := first | exact dd | fail) [std, Dk.d]
    refine o_call rfl rfl q rfl rfl ?_
    simp (config := sc) (disch := first | exact dd | fail) [std, hdd]
    refine o_call rfl rfl q1 rfl rfl ?_
    simp (config := sc) (disch := first | exact dd | fail) [std]
  | some x =>
    rw [hx] at q1
    have hrx := find_rng hrg hx
    have hx0 : ¬ x < 0 := by omega
    simp (config := sc) (disch := first | exact dd | fail) [std, Dk.d]
    refine o_call rfl rfl q rfl rfl ?_
    simp (config := sc) (disch := first | exact dd | fail) [std, hdd]
    refine o_call rfl rfl q1 rfl rfl ?_
    simp (config := sc) (disch := first | exact dd | fail) [std, hx0]
    refine o_call rfl rfl q2 rfl rfl ?_
    simp (config := sc) (disch := first | exact dd | fail) [std]
    refine o_call rfl rfl q3 rfl rfl ?_
    simp (config := sc) (disch := first | exact dd | fail) [std, Dk.d]

theorem drop_srt {l : List Ent} (h : Srt l) (n : List UInt8) : Srt (dropK l n) := List.Pairwise.sublist List.filter_sublist h
theorem drop_no {l : List Ent} {n : List UInt8} : ∀ e ∈ dropK l n, e.name ≠ n := fun e he => by have := (List.mem_filter.1 he).2; simpa using this
theorem ref08Rename (k : Dk) (hk : okK k) (name to : List UInt8) (hto : to.length ≤ 9223372036854775807) : Holds Tryz.prog 77 [.d k.d, .d (.str name), .d (.str to)] (.tup [.d (renameS k name to).1.d, .d (.int .i64 (renameS k name to).2)]) (fun _ => false) := by
  refine Holds.by (by kernel_rfl) Tryz.func77 (by kernel_rfl) rfl [] (by simp) (by kernel_rfl) (by kernel_rfl) rfl ?_
  conv in ccs _ => cbv
  obtain ⟨hk1, hk2⟩ := hk
  have q := ref08Good k hk1 (by omega)
  have hrg := good_right k
  have hok := ok_good ⟨hk1, hk2⟩
  unfold renameS
  generalize goodK k = d at *
  have hll := right_lens hrg
  have hdd : d.d = .agg [.slice (d.files.map FileD.d), .slice (d.now.map Ent.d), .slice (d.kept.map Ent.d)] := rfl
  have hin := right_in hrg
  have q1 := ref08Find d.now name (by omega)
  unfold findI at q1
  have q2 := ref08Without d.now name (by omega)
  have hdl := drop_len d.now name
  have hdl2 := drop_len (dropK d.now name) to
  have q3 := ref08Without (dropK d.now name) to (by omega)
  have qf := ref08Fair to hto
  cases hx : findK d.now name with
  | none =>
    rw [hx] at q1
    simp (config := sc) (disch := first | exact dd | fail) [std, Dk.d]
    refine o_call rfl rfl q rfl rfl ?_
    simp (config := sc) (disch := first | exact dd | fail) [std, hdd]
    refine o_call rfl rfl q1 rfl rfl ?_
    simp (config := sc) (disch := first | exact dd | fail) [std]
  | some x =>
    rw [hx] at q1
    have hrx := find_rng hrg hx
    have hx0 : ¬ x < 0 := by omega
    have hs := named_srt (rightK_iff.1 hrg).2.1
    have q4 := ref08With (dropK (dropK d.now name) to) to x (by omega) (drop_srt (drop_srt hs name) to) drop_no
    have hpl := put_len (dropK (dropK d.now name) to) to x
    cases hf : fairN to with
    | false =>
      rw [hf] at qf
      simp (config := sc) (disch := first | exact dd | fail) [std, Dk.d]
      refine o_call rfl rfl q rfl rfl ?_
      simp (config := sc) (disch := first | exact dd | fail) [std, hdd]
      refine o_call rfl rfl q1 rfl rfl ?_
      simp (config := sc) (disch := first | exact dd | fail) [std, hx0]
      refine o_call rfl rfl qf rfl rfl ?_
      simp (config := sc) (disch := first | exact dd | fail) [std]
    | true =>
      have q5 := ref08Ordered ⟨d.files, putK (dropK (dropK d.now name) to) to x, d.kept⟩ ⟨hok.1.1, sized_put (sized_drop (sized_drop hok.1.2.1 name) to) hto x (by omega), hok.1.2.2⟩ ⟨inK_put (inK_drop (inK_drop hin.1 name) to) hrx.1 hrx.2, hin.2⟩ (by simp; omega)
      rw [hf] at qf
      simp (config := sc) (disch := first | exact dd | fail) [std, Dk.d]
      refine o_call rfl rfl q rfl rfl ?_
      simp (config := sc) (disch := first | exact dd | fail) [std, hdd]
      refine o_call rfl rfl q1 rfl rfl ?_
      simp (config := sc) (disch := first | exact dd | fail) [std, hx0]
      refine o_call rfl rfl qf rfl rfl ?_
      simp (config := sc) (disch := first | exact dd | fail) [std]
      refine o_call rfl rfl q2 rfl rfl ?_
      simp (config := sc) (disch := first | exact dd | fail) [std]
      refine o_call rfl rfl q3 rfl rfl ?_
      simp (config := sc) (disch := first | exact dd | fail) [std]
      refine o_call rfl rfl q4 rfl rfl ?_
      simp (config := sc) (disch := first | exact dd | fail) [std]
      refine o_call rfl rfl q5 rfl rfl ?_
      simp (config := sc) (disch := first | exact dd | fail) [std, Dk.d]

theorem ref08Sync (k : Dk) (hk : okK k) (name : List UInt8) : Holds Tryz.prog 76 [.d k.d, .d (.str name)] (.tup [.d (syncS k name).1.d, .d (.int .i64 (syncS k name).2)]) (fun _ => false) := by
  refine Holds.by (by kernel_rfl) Tryz.func76 (by kernel_rfl) rfl [] (by simp) (by kernel_rfl) (by kernel_rfl) rfl ?_
  conv in ccs _ => cbv
  obtain ⟨hk1, hk2⟩ := hk
  have q := ref08Good k hk1 (by omega)
  have hrg := good_right k
  have hok := ok_good ⟨hk1, hk2⟩
  unfold syncS
  generalize goodK k = d at *
  have hll := right_lens hrg
  have hdd : d.d = .agg [.slice (d.files.map FileD.d), .slice (d.now.map Ent.d), .slice (d.kept.map Ent.d)] := rfl
  have q1 := ref08Find d.now name (by omega)
  unfold findI at q1
  cases hx : findK d.now name with
  | none =>
    rw [hx] at q1
    simp (config := sc) (disch := first | exact dd | fail) [std, Dk.d]
    refine o_call rfl rfl q rfl rfl ?_
    simp (config := sc) (disch := first | exact dd | fail) [std, hdd]
    refine o_call rfl rfl q1 rfl rfl ?_
    simp (config := sc) (disch := first | exact dd | fail) [std]
  | some x =>
    rw [hx] at q1
    have hrx := find_rng hrg hx
    obtain ⟨n, rfl⟩ := Int.eq_ofNat_of_zero_le hrx.1
    have hnl : n < d.files.length := by omega
    have hfa : fileAt d.files (n : Int) = d.files[n] := by simp [fileAt, List.getD_eq_getElem?_getD, hnl]
    have hdl := hok.1.1.2 _ (List.getElem_mem hnl)
    simp only [hfa]
    have q2 := ref08Set d n ⟨d.files[n].data, d.files[n].data.length⟩ (by omega) (by omega)
    simp (config := sc) (disch := first | exact dd | fail) [std, Dk.d]
    refine o_call rfl rfl q rfl rfl ?_
    simp (config := sc) (disch := first | exact dd | fail) [std, hdd]
    refine o_call rfl rfl q1 rfl rfl ?_
    simp (config := sc) (disch := first | exact dd | fail) [std]
    refine o_call rfl rfl q2 rfl rfl ?_
    simp (config := sc) (disch := first | exact dd | fail) [std, Dk.d]

theorem find_names {l : List Ent} {name : List UInt8} (h : findK l name = none) : ∀ e ∈ l, e.name ≠ name := by
  unfold findK at h
  rw [Option.map_eq_none_iff, List.find?_eq_none] at h
  intro e he
  simpa using h e he
theorem ref08Append (k : Dk) (hk : okK k) (name b : List UInt8) (hn : name.length ≤ 9223372036854775807) (hb : b.length ≤ 1000000) : Holds Tryz.prog 75 [.d k.d, .d (.str name), .d (.slice (b.map byteD))] (.tup [.d (appendS k name b).1.d, .d (.int .i64 (appendS k name b).2)]) (fun _ => false) := by
  refine Holds.by (by kernel_rfl) Tryz.func75 (by kernel_rfl) rfl [60009, 70034, 70037, 70041] (by simp) (by kernel_rfl) (by kernel_rfl) rfl ?_
  conv in ccs _ => cbv
  obtain ⟨hk1, hk2⟩ := hk
  have q := ref08Good k hk1 (by omega)
  have hrg := good_right k
  have hok := ok_good ⟨hk1, hk2⟩
  unfold appendS
  generalize goodK k = d at *
  have hll := right_lens hrg
  have hdd : d.d = .agg [.slice (d.files.map FileD.d), .slice (d.now.map Ent.d), .slice (d.kept.map Ent.d)] := rfl
  have q1 := ref08Find d.now name (by omega)
  unfold findI at q1
  have qf := ref08Fair name hn
  cases hf : fairN name with
  | false =>
    rw [hf] at qf
    simp (config := sc) (disch := first | exact dd | fail) [std, Dk.d]
    refine o_call rfl rfl q rfl rfl ?_
    simp (config := sc) (disch := first | exact dd | fail) [std, hdd]
    refine o_call rfl rfl qf rfl rfl ?_
    simp (config := sc) (disch := first | exact dd | fail) [std]
  | true =>
  rw [hf] at qf
  cases hx : findK d.now name with
  | none =>
    rw [hx] at q1
    by_cases h20 : (20 : Int) ≤ d.files.length
    · have hc : d.files.length ≥ 20 ∨ b.length > 20000 := by omega
      simp (config := sc) (disch := first | exact dd | fail) [std, Dk.d]
      refine o_call rfl rfl q rfl rfl ?_
      simp (config := sc) (disch := first | exact dd | fail) [std, hdd]
      refine o_call rfl rfl qf rfl rfl ?_
      simp (config := sc) (disch := first | exact dd | fail) [std]
      refine o_call rfl rfl q1 rfl rfl ?_
      simp (config := sc) (disch := first | exact dd | fail) [std, h20, hc]
    · by_cases hbl : (20000 : Int) < b.length
      · have hc : d.files.length ≥ 20 ∨ b.length > 20000 := by omega
        simp (config := sc) (disch := first | exact dd | fail) [std, Dk.d]
        refine o_call rfl rfl q rfl rfl ?_
        simp (config := sc) (disch := first | exact dd | fail) [std, hdd]
        refine o_call rfl rfl qf rfl rfl ?_
        simp (config := sc) (disch := first | exact dd | fail) [std]
        refine o_call rfl rfl q1 rfl rfl ?_
        simp (config := sc) (disch := first | exact dd | fail) [std, h20, hbl, hc]
      · have hc : ¬ (d.files.length ≥ 20 ∨ b.length > 20000) := by omega
        have qp := ref08With d.now name d.files.length (by omega) (named_srt (rightK_iff.1 hrg).2.1) (find_names hx)
        have hin := right_in hrg
        have hpl := put_len d.now name d.files.length
        have qo := ref08Ordered ⟨d.files ++ [⟨b, 0⟩], putK d.now name d.files.length, d.kept⟩ ⟨⟨by simp; omega, fun f hf => by
            rcases List.mem_append.1 hf with h | h
            · exact hok.1.1.2 f h
            · simp at h; subst h; simp; omega⟩, sized_put hok.1.2.1 hn _ (by omega), hok.1.2.2⟩
          ⟨inK_put (fun e he => by have := hin.1 e he; simp; omega) (by omega) (by simp; omega), fun e he => by have := hin.2 e he; simp; omega⟩ (by simp; omega)
        have hqa : (⟨d.files ++ [⟨b, 0⟩], putK d.now name d.files.length, d.kept⟩ : Dk).d = .agg [.slice (d.files.map FileD.d ++ [FileD.d ⟨b, 0⟩]), .slice ((putK d.now name d.files.length).map Ent.d), .slice (d.kept.map Ent.d)] := by simp [Dk.d]
        rw [hqa] at qo
        simp (config := sc) (disch := first | exact dd | fail) [std, Dk.d]
        refine o_call rfl rfl q rfl rfl ?_
        simp (config := sc) (disch := first | exact dd | fail) [std, hdd]
        refine o_call rfl rfl qf rfl rfl ?_
        simp (config := sc) (disch := first | exact dd | fail) [std]
        refine o_call rfl rfl q1 rfl rfl ?_
        simp (config := sc) (disch := first | exact dd | fail) [std, h20, hbl, hc]
        refine o_call rfl rfl qp rfl rfl ?_
        simp (config := sc) (disch := first | exact dd | fail) [std]
        refine o_call rfl rfl qo rfl rfl ?_
        simp (config := sc) (disch := first | exact dd | fail) [std, Dk.d]
  | some x =>
    rw [hx] at q1
    have hrx := find_rng hrg hx
    obtain ⟨n, rfl⟩ := Int.eq_ofNat_of_zero_le hrx.1
    have hnl : n < d.files.length := by omega
    have hfa : fileAt d.files (n : Int) = d.files[n] := by simp [fileAt, List.getD_eq_getElem?_getD, hnl]
    have hdl := hok.1.1.2 _ (List.getElem_mem hnl)
    simp only [hfa]
    by_cases hc2 : (20000 : Int) < d.files[n].data.length + b.length
    · have hc : d.files[n].data.length + b.length > 20000 := by omega
      simp (config := sc) (disch := first | exact dd | fail) [std, Dk.d]
      refine o_call rfl rfl q rfl rfl ?_
      simp (config := sc) (disch := first | exact dd | fail) [std, hdd]
      refine o_call rfl rfl qf rfl rfl ?_
      simp (config := sc) (disch := first | exact dd | fail) [std]
      refine o_call rfl rfl q1 rfl rfl ?_
      simp (config := sc) (disch := first | exact dd | fail) [std, hc2, hc]
    · have hc : ¬ d.files[n].data.length + b.length > 20000 := by omega
      have q2 := ref08Set d n ⟨d.files[n].data ++ b, d.files[n].safe⟩ (by omega) (by omega)
      have hfd : FileD.d ⟨d.files[n].data ++ b, d.files[n].safe⟩ = .agg [.slice (d.files[n].data.map byteD ++ b.map byteD), .int .i64 d.files[n].safe] := by simp [FileD.d]
      rw [hfd] at q2
      simp (config := sc) (disch := first | exact dd | fail) [std, Dk.d]
      refine o_call rfl rfl q rfl rfl ?_
      simp (config := sc) (disch := first | exact dd | fail) [std, hdd]
      refine o_call rfl rfl qf rfl rfl ?_
      simp (config := sc) (disch := first | exact dd | fail) [std]
      refine o_call rfl rfl q1 rfl rfl ?_
      simp (config := sc) (disch := first | exact dd | fail) [std, hc2, hc]
      refine o_call rfl rfl q2 rfl rfl ?_
      simp (config := sc) (disch := first | exact dd | fail) [std, Dk.d]

end Go.Proofs.YtkbidfohcanijaaGreat
