/- Disks: what the document's layer 8 answers, third part: what is done to a disk. -/
import Derived.Test.YtoamihggbaaohaaDiskT
import Derived.Test.YtoamihggbaaohaaDiskZ
namespace Go.Proofs.Ytoamihggbaaohaa
open BoEng Go
set_option maxRecDepth 100000
set_option linter.unusedSimpArgs false
set_option linter.unusedVariables false

def withO (l : List Ent) (name : List UInt8) (x : Int) (i : Nat) : List Ent := if atK l name < i then l.take (atK l name) ++ ⟨name, x⟩ :: (l.take i).drop (atK l name) else l.take i
def rwthI (l : List Ent) (name : List UInt8) (x : Int) (i : Nat) (S : PS) : Prop :=
  i ≤ l.length ∧ S.t 0 = .d (.slice (l.map Ent.d)) ∧ S.t 1 = .d (.str name) ∧ S.t 2 = .d (.int .i64 x) ∧ S.t 9 = .d (.int .i64 i) ∧ S.t 8 = .d (.bool (decide (atK l name < i))) ∧ S.t 7 = .d (.slice ((withO l name x i).map Ent.d)) ∧ S.own (.t 7 0) = true
theorem withO_len (l : List Ent) (name : List UInt8) (x : Int) (i : Nat) (hi : i ≤ l.length) : (withO l name x i).length ≤ l.length + 1 := by
  have := atK_le l name
  unfold withO
  split
  · simp; omega
  · simp; omega
theorem ref08With (l : List Ent) (name : List UInt8) (x : Int) (hl : l.length ≤ 90000) (hs : Srt l) (hn : ∀ e ∈ l, e.name ≠ name) : Holds Try.prog 51 [.d (.slice (l.map Ent.d)), .d (.str name), .d (.int .i64 x)] (.d (.slice ((putK l name x).map Ent.d))) (fun _ => false) := by
  refine Holds.by (by kernel_rfl) Try.func51 (by kernel_rfl) rfl [27, 33, 42] (by simp) (by kernel_rfl) (by kernel_rfl) rfl ?_
  conv in ccs _ => cbv
  have hal := atK_le l name
  simp -implicitDefEqProofs (disch := first | omega | (simp -implicitDefEqProofs <;> omega) | (simp -implicitDefEqProofs [*] <;> omega) | fail) [-List.map_take, -List.map_drop, -List.length_flatMap, map_take', map_drop', wrap_in, nth_nat, opt_if, dec_t, dec_f]
  refine lp (rwthI l name x) (fun i => l.length - i) 0 ⟨by omega, by simp [withO]⟩ ?_
  rintro i S ⟨hi, e0, e1, e2, e9, e8, e7, o7⟩
  have hwl := withO_len l name x i hi
  by_cases hlt : i < l.length
  · have k6 : (i : Int) < l.length := by omega
    have hne := hn _ (List.getElem_mem hlt)
    rcases Nat.lt_trichotomy (atK l name) i with h | h | h
    · have hst : withO l name x (i + 1) = withO l name x i ++ [l[i]] := by
        unfold withO
        rw [if_pos (by omega), if_pos h, List.take_succ_eq_append_getElem hlt, List.drop_append_of_le_length (by simp; omega)]
        simp
      have hd2 : atK l name < i + 1 := by omega
      rw [decide_eq_true h] at e8
      simp -implicitDefEqProofs (disch := first | omega | (simp -implicitDefEqProofs <;> omega) | (simp -implicitDefEqProofs [*] <;> omega) | fail) [-List.map_take, -List.map_drop, -List.length_flatMap, map_take', map_drop', wrap_in, nth_nat, opt_if, dec_t, dec_f, e0, e1, e2, e7, e8, e9, o7, k6]
      exact nxt_of (i + 1) ⟨by omega, by simp -implicitDefEqProofs (disch := first | omega | (simp -implicitDefEqProofs <;> omega) | (simp -implicitDefEqProofs [*] <;> omega) | fail) [*, -List.map_take, -List.map_drop, -List.length_flatMap, map_take', map_drop', wrap_in, nth_nat, opt_if, dec_t, dec_f, hst, hd2, Ent.d]⟩ (by omega)
    · have hlg : strLt name l[i].name = true := by
        have h1 := atK_at (l := l) (name := name) (by omega)
        simp only [h] at h1
        exact lt_tri _ _ h1 hne
      have hle : strLt l[i].name name = false := lt_asymm hlg
      have hst : withO l name x (i + 1) = withO l name x i ++ [⟨name, x⟩] ++ [l[i]] := by
        unfold withO
        rw [if_pos (by omega), if_neg (by omega), h, List.take_succ_eq_append_getElem hlt, List.drop_append_of_le_length (by simp; omega)]
        simp
      have hd2 : atK l name < i + 1 := by omega
      rw [decide_eq_false (by omega)] at e8
      simp -implicitDefEqProofs (disch := first | omega | (simp -implicitDefEqProofs <;> omega) | (simp -implicitDefEqProofs [*] <;> omega) | fail) [-List.map_take, -List.map_drop, -List.length_flatMap, map_take', map_drop', wrap_in, nth_nat, opt_if, dec_t, dec_f, e0, e1, e2, e7, e8, e9, o7, k6, hle, hne]
      exact nxt_of (i + 1) ⟨by omega, by simp -implicitDefEqProofs (disch := first | omega | (simp -implicitDefEqProofs <;> omega) | (simp -implicitDefEqProofs [*] <;> omega) | fail) [*, -List.map_take, -List.map_drop, -List.length_flatMap, map_take', map_drop', wrap_in, nth_nat, opt_if, dec_t, dec_f, hst, hd2, Ent.d]⟩ (by omega)
    · have hlg : strLt l[i].name name = true := atK_lt h hlt
      have hst : withO l name x (i + 1) = withO l name x i ++ [l[i]] := by
        unfold withO
        rw [if_neg (by omega), if_neg (by omega), List.take_succ_eq_append_getElem hlt]
      have hd2 : ¬ atK l name < i + 1 := by omega
      rw [decide_eq_false (by omega)] at e8
      simp -implicitDefEqProofs (disch := first | omega | (simp -implicitDefEqProofs <;> omega) | (simp -implicitDefEqProofs [*] <;> omega) | fail) [-List.map_take, -List.map_drop, -List.length_flatMap, map_take', map_drop', wrap_in, nth_nat, opt_if, dec_t, dec_f, e0, e1, e2, e7, e8, e9, o7, k6, hlg]
      exact nxt_of (i + 1) ⟨by omega, by simp -implicitDefEqProofs (disch := first | omega | (simp -implicitDefEqProofs <;> omega) | (simp -implicitDefEqProofs [*] <;> omega) | fail) [*, -List.map_take, -List.map_drop, -List.length_flatMap, map_take', map_drop', wrap_in, nth_nat, opt_if, dec_t, dec_f, hst, hd2, Ent.d]⟩ (by omega)
  · have k6 : ¬ (i : Int) < l.length := by omega
    have hil : i = l.length := by omega
    subst hil
    by_cases h : atK l name < l.length
    · have hw : withO l name x l.length = putK l name x := by
        unfold withO putK
        rw [if_pos h, List.take_length]
      rw [decide_eq_true h] at e8
      rw [hw] at e7
      simp -implicitDefEqProofs (disch := first | omega | (simp -implicitDefEqProofs <;> omega) | (simp -implicitDefEqProofs [*] <;> omega) | fail) [-List.map_take, -List.map_drop, -List.length_flatMap, map_take', map_drop', wrap_in, nth_nat, opt_if, dec_t, dec_f, e0, e1, e2, e7, e8, e9, o7, k6]
    · have hw : putK l name x = withO l name x l.length ++ [⟨name, x⟩] := by
        have : atK l name = l.length := by omega
        unfold withO putK
        rw [if_neg h, this]
        simp
      rw [decide_eq_false h] at e8
      simp -implicitDefEqProofs (disch := first | omega | (simp -implicitDefEqProofs <;> omega) | (simp -implicitDefEqProofs [*] <;> omega) | fail) [-List.map_take, -List.map_drop, -List.length_flatMap, map_take', map_drop', wrap_in, nth_nat, opt_if, dec_t, dec_f, e0, e1, e2, e7, e8, e9, o7, k6, hw, Ent.d]

def rstI (k : Dk) (n : Int) (f : FileD) (i : Nat) (S : PS) : Prop :=
  i ≤ k.files.length ∧ S.t 1 = .d (.int .i64 n) ∧ S.t 3 = .cptr (cells k.d) ∧ S.t 5 = .cptr (cells f.d) ∧ S.t 6 = .ptr (FO + 6) 1 0 ∧ S.t 8 = .d (.int .i64 i) ∧ S.t 7 = .d (.slice (((k.files.set n.toNat f).take i).map FileD.d)) ∧ S.own (.t 7 0) = true ∧
    S.fo = FO ∧ S.gen (FO + 6) = 1 ∧ S.box (FO + 6) = [.d (.slice []), .d (.slice []), .d (.slice [])]
theorem ref08Set (k : Dk) (n : Int) (f : FileD) (hk : k.files.length ≤ 100000) (h0 : 0 ≤ n) : Holds Try.prog 53 [.d k.d, .d (.int .i64 n), .d f.d] (.d (setFile k n f).d) (fun _ => false) := by
  refine Holds.by (by kernel_rfl) Try.func53 (by kernel_rfl) rfl [20003, 20005, 19, 23] (by simp) (by kernel_rfl) (by kernel_rfl) rfl ?_
  conv in ccs _ => cbv
  obtain ⟨m, rfl⟩ := Int.eq_ofNat_of_zero_le h0
  simp -implicitDefEqProofs (disch := first | omega | (simp -implicitDefEqProofs <;> omega) | (simp -implicitDefEqProofs [*] <;> omega) | fail) [-List.map_take, -List.map_drop, -List.length_flatMap, map_take', map_drop', wrap_in, nth_nat, opt_if, dec_t, dec_f]
  refine lp (rstI k m f) (fun i => k.files.length - i) 0 ⟨by omega, by simp, by simp, by simp, by simp, by simp, by simp, by simp, by simp, by simp, by simp⟩ ?_
  rintro i S ⟨hi, e1, e3, e5, e6, e8, e7, o7, efo, g6, b6⟩
  rw [Int.toNat_natCast] at e7
  by_cases hlt : i < k.files.length
  · have k6 : (i : Int) < k.files.length := by omega
    have hls : i < (k.files.set m f).length := by simpa using hlt
    have ht : (k.files.set m f).take (i + 1) = (k.files.set m f).take i ++ [(k.files.set m f)[i]] := List.take_succ_eq_append_getElem hls
    rw [List.getElem_set] at ht
    have hm2 := congrArg (List.map FileD.d) ht
    rw [List.map_append] at hm2
    have hln : ((k.files.set m f).take i).length = i := by simp; omega
    obtain ⟨T, hT⟩ : ∃ T, T = (k.files.set m f).take i := ⟨_, rfl⟩
    rw [← hT] at e7 hm2 hln
    have hb : (i + 1) * 32 ≤ 140737488355328 := by omega
    by_cases hc : m = i
    · have hc' : (i = m) = True := by simp; omega
      rw [if_pos hc] at hm2
      simp -implicitDefEqProofs (disch := first | omega | (simp -implicitDefEqProofs <;> omega) | (simp -implicitDefEqProofs [*] <;> omega) | fail) [-List.map_take, -List.map_drop, -List.length_flatMap, map_take', map_drop', wrap_in, nth_nat, opt_if, dec_t, dec_f, e1, e3, e5, e6, e7, e8, o7, efo, g6, b6, k6, hc', hln]
      exact nxt_of (i + 1) ⟨by omega, by simp -implicitDefEqProofs (disch := first | omega | (simp -implicitDefEqProofs <;> omega) | (simp -implicitDefEqProofs [*] <;> omega) | fail) [-List.map_take, -List.map_drop, -List.length_flatMap, map_take', map_drop', wrap_in, nth_nat, opt_if, dec_t, dec_f, e1], by simp -implicitDefEqProofs (disch := first | omega | (simp -implicitDefEqProofs <;> omega) | (simp -implicitDefEqProofs [*] <;> omega) | fail) [-List.map_take, -List.map_drop, -List.length_flatMap, map_take', map_drop', wrap_in, nth_nat, opt_if, dec_t, dec_f, e3], by simp -implicitDefEqProofs (disch := first | omega | (simp -implicitDefEqProofs <;> omega) | (simp -implicitDefEqProofs [*] <;> omega) | fail) [-List.map_take, -List.map_drop, -List.length_flatMap, map_take', map_drop', wrap_in, nth_nat, opt_if, dec_t, dec_f, e5], by simp -implicitDefEqProofs (disch := first | omega | (simp -implicitDefEqProofs <;> omega) | (simp -implicitDefEqProofs [*] <;> omega) | fail) [-List.map_take, -List.map_drop, -List.length_flatMap, map_take', map_drop', wrap_in, nth_nat, opt_if, dec_t, dec_f, e6], by simp, by rw [Int.toNat_natCast, hm2]; simp -implicitDefEqProofs (disch := first | omega | (simp -implicitDefEqProofs <;> omega) | (simp -implicitDefEqProofs [*] <;> omega) | fail) [-List.map_take, -List.map_drop, -List.length_flatMap, map_take', map_drop', wrap_in, nth_nat, opt_if, dec_t, dec_f, FileD.d], by simp -implicitDefEqProofs (disch := first | omega | (simp -implicitDefEqProofs <;> omega) | (simp -implicitDefEqProofs [*] <;> omega) | fail) [-List.map_take, -List.map_drop, -List.length_flatMap, map_take', map_drop', wrap_in, nth_nat, opt_if, dec_t, dec_f], by simp -implicitDefEqProofs (disch := first | omega | (simp -implicitDefEqProofs <;> omega) | (simp -implicitDefEqProofs [*] <;> omega) | fail) [-List.map_take, -List.map_drop, -List.length_flatMap, map_take', map_drop', wrap_in, nth_nat, opt_if, dec_t, dec_f, efo], by simp -implicitDefEqProofs (disch := first | omega | (simp -implicitDefEqProofs <;> omega) | (simp -implicitDefEqProofs [*] <;> omega) | fail) [-List.map_take, -List.map_drop, -List.length_flatMap, map_take', map_drop', wrap_in, nth_nat, opt_if, dec_t, dec_f, g6, efo], by simp -implicitDefEqProofs (disch := first | omega | (simp -implicitDefEqProofs <;> omega) | (simp -implicitDefEqProofs [*] <;> omega) | fail) [-List.map_take, -List.map_drop, -List.length_flatMap, map_take', map_drop', wrap_in, nth_nat, opt_if, dec_t, dec_f, b6, efo]⟩ (by omega)
    · have hc' : ¬ (i : Int) = m := by omega
      rw [if_neg hc] at hm2
      simp -implicitDefEqProofs (disch := first | omega | (simp -implicitDefEqProofs <;> omega) | (simp -implicitDefEqProofs [*] <;> omega) | fail) [-List.map_take, -List.map_drop, -List.length_flatMap, map_take', map_drop', wrap_in, nth_nat, opt_if, dec_t, dec_f, e1, e3, e5, e6, e7, e8, o7, efo, g6, b6, k6, hc', hln]
      exact nxt_of (i + 1) ⟨by omega, by simp -implicitDefEqProofs (disch := first | omega | (simp -implicitDefEqProofs <;> omega) | (simp -implicitDefEqProofs [*] <;> omega) | fail) [-List.map_take, -List.map_drop, -List.length_flatMap, map_take', map_drop', wrap_in, nth_nat, opt_if, dec_t, dec_f, e1], by simp -implicitDefEqProofs (disch := first | omega | (simp -implicitDefEqProofs <;> omega) | (simp -implicitDefEqProofs [*] <;> omega) | fail) [-List.map_take, -List.map_drop, -List.length_flatMap, map_take', map_drop', wrap_in, nth_nat, opt_if, dec_t, dec_f, e3], by simp -implicitDefEqProofs (disch := first | omega | (simp -implicitDefEqProofs <;> omega) | (simp -implicitDefEqProofs [*] <;> omega) | fail) [-List.map_take, -List.map_drop, -List.length_flatMap, map_take', map_drop', wrap_in, nth_nat, opt_if, dec_t, dec_f, e5], by simp -implicitDefEqProofs (disch := first | omega | (simp -implicitDefEqProofs <;> omega) | (simp -implicitDefEqProofs [*] <;> omega) | fail) [-List.map_take, -List.map_drop, -List.length_flatMap, map_take', map_drop', wrap_in, nth_nat, opt_if, dec_t, dec_f, e6], by simp, by rw [Int.toNat_natCast, hm2]; simp -implicitDefEqProofs (disch := first | omega | (simp -implicitDefEqProofs <;> omega) | (simp -implicitDefEqProofs [*] <;> omega) | fail) [-List.map_take, -List.map_drop, -List.length_flatMap, map_take', map_drop', wrap_in, nth_nat, opt_if, dec_t, dec_f, FileD.d], by simp -implicitDefEqProofs (disch := first | omega | (simp -implicitDefEqProofs <;> omega) | (simp -implicitDefEqProofs [*] <;> omega) | fail) [-List.map_take, -List.map_drop, -List.length_flatMap, map_take', map_drop', wrap_in, nth_nat, opt_if, dec_t, dec_f], by simp -implicitDefEqProofs (disch := first | omega | (simp -implicitDefEqProofs <;> omega) | (simp -implicitDefEqProofs [*] <;> omega) | fail) [-List.map_take, -List.map_drop, -List.length_flatMap, map_take', map_drop', wrap_in, nth_nat, opt_if, dec_t, dec_f, efo], by simp -implicitDefEqProofs (disch := first | omega | (simp -implicitDefEqProofs <;> omega) | (simp -implicitDefEqProofs [*] <;> omega) | fail) [-List.map_take, -List.map_drop, -List.length_flatMap, map_take', map_drop', wrap_in, nth_nat, opt_if, dec_t, dec_f, g6, efo], by simp -implicitDefEqProofs (disch := first | omega | (simp -implicitDefEqProofs <;> omega) | (simp -implicitDefEqProofs [*] <;> omega) | fail) [-List.map_take, -List.map_drop, -List.length_flatMap, map_take', map_drop', wrap_in, nth_nat, opt_if, dec_t, dec_f, b6, efo]⟩ (by omega)
  · have k6 : ¬ (i : Int) < k.files.length := by omega
    have ht : (k.files.set m f).take i = k.files.set m f := List.take_of_length_le (by simp; omega)
    rw [ht] at e7
    simp -implicitDefEqProofs (disch := first | omega | (simp -implicitDefEqProofs <;> omega) | (simp -implicitDefEqProofs [*] <;> omega) | fail) [-List.map_take, -List.map_drop, -List.length_flatMap, map_take', map_drop', wrap_in, nth_nat, opt_if, dec_t, dec_f, e1, e3, e5, e6, e7, e8, o7, efo, g6, b6, k6, setFile, Dk.d]

theorem ref08SyncDir (k : Dk) (hk : okK k) : Holds Try.prog 45 [.d k.d] (.d (syncDirS k).d) (fun _ => false) := by
  refine Holds.by (by kernel_rfl) Try.func45 (by kernel_rfl) rfl [] (by simp) (by kernel_rfl) (by kernel_rfl) rfl ?_
  conv in ccs _ => cbv
  obtain ⟨hk1, hk2⟩ := hk
  have q := ref08Good k hk1 (by omega)
  have hrg := good_right k
  have hok := ok_good ⟨hk1, hk2⟩
  unfold syncDirS
  generalize goodK k = d at *
  have hdd : d.d = .agg [.slice (d.files.map FileD.d), .slice (d.now.map Ent.d), .slice (d.kept.map Ent.d)] := rfl
  have hin := right_in hrg
  have hlen := (right_lens hrg).2.1
  have q2 := ref08Ordered ⟨d.files, d.now, d.now⟩ ⟨hok.1.1, hok.1.2.1, hok.1.2.1⟩ ⟨hin.1, hin.1⟩ (by simp; omega)
  simp -implicitDefEqProofs (disch := first | omega | (simp -implicitDefEqProofs <;> omega) | (simp -implicitDefEqProofs [*] <;> omega) | fail) [-List.map_take, -List.map_drop, -List.length_flatMap, map_take', map_drop', wrap_in, nth_nat, opt_if, dec_t, dec_f, Dk.d]
  refine o_call rfl rfl q rfl rfl ?_
  simp -implicitDefEqProofs (disch := first | omega | (simp -implicitDefEqProofs <;> omega) | (simp -implicitDefEqProofs [*] <;> omega) | fail) [-List.map_take, -List.map_drop, -List.length_flatMap, map_take', map_drop', wrap_in, nth_nat, opt_if, dec_t, dec_f, hdd]
  refine o_call rfl rfl q2 rfl rfl ?_
  simp -implicitDefEqProofs (disch := first | omega | (simp -implicitDefEqProofs <;> omega) | (simp -implicitDefEqProofs [*] <;> omega) | fail) [-List.map_take, -List.map_drop, -List.length_flatMap, map_take', map_drop', wrap_in, nth_nat, opt_if, dec_t, dec_f, Dk.d]

theorem ref08Remove (k : Dk) (hk : okK k) (name : List UInt8) : Holds Try.prog 44 [.d k.d, .d (.str name)] (.tup [.d (removeS k name).1.d, .d (.int .i64 (removeS k name).2)]) (fun _ => false) := by
  refine Holds.by (by kernel_rfl) Try.func44 (by kernel_rfl) rfl [] (by simp) (by kernel_rfl) (by kernel_rfl) rfl ?_
  conv in ccs _ => cbv
  obtain ⟨hk1, hk2⟩ := hk
  have q := ref08Good k hk1 (by omega)
  have hrg := good_right k
  have hok := ok_good ⟨hk1, hk2⟩
  unfold removeS
  generalize goodK k = d at *
  have hll := right_lens hrg
  have hdd : d.d = .agg [.slice (d.files.map FileD.d), .slice (d.now.map Ent.d), .slice (d.kept.map Ent.d)] := rfl
  have hin := right_in hrg
  have q1 := ref08Find d.now name (by omega)
  unfold findI at q1
  have q2 := ref08Without d.now name (by omega)
  have hdl := drop_len d.now name
  have q3 := ref08Ordered ⟨d.files, dropK d.now name, d.kept⟩ ⟨hok.1.1, sized_drop hok.1.2.1 name, hok.1.2.2⟩ ⟨inK_drop hin.1 name, hin.2⟩ (by simp; omega)
  cases hx : findK d.now name with
  | none =>
    rw [hx] at q1
    simp -implicitDefEqProofs (disch := first | omega | (simp -implicitDefEqProofs <;> omega) | (simp -implicitDefEqProofs [*] <;> omega) | fail) [-List.map_take, -List.map_drop, -List.length_flatMap, map_take', map_drop', wrap_in, nth_nat, opt_if, dec_t, dec_f, Dk.d]
    refine o_call rfl rfl q rfl rfl ?_
    simp -implicitDefEqProofs (disch := first | omega | (simp -implicitDefEqProofs <;> omega) | (simp -implicitDefEqProofs [*] <;> omega) | fail) [-List.map_take, -List.map_drop, -List.length_flatMap, map_take', map_drop', wrap_in, nth_nat, opt_if, dec_t, dec_f, hdd]
    refine o_call rfl rfl q1 rfl rfl ?_
    simp -implicitDefEqProofs (disch := first | omega | (simp -implicitDefEqProofs <;> omega) | (simp -implicitDefEqProofs [*] <;> omega) | fail) [-List.map_take, -List.map_drop, -List.length_flatMap, map_take', map_drop', wrap_in, nth_nat, opt_if, dec_t, dec_f]
  | some x =>
    rw [hx] at q1
    have hrx := find_rng hrg hx
    have hx0 : ¬ x < 0 := by omega
    simp -implicitDefEqProofs (disch := first | omega | (simp -implicitDefEqProofs <;> omega) | (simp -implicitDefEqProofs [*] <;> omega) | fail) [-List.map_take, -List.map_drop, -List.length_flatMap, map_take', map_drop', wrap_in, nth_nat, opt_if, dec_t, dec_f, Dk.d]
    refine o_call rfl rfl q rfl rfl ?_
    simp -implicitDefEqProofs (disch := first | omega | (simp -implicitDefEqProofs <;> omega) | (simp -implicitDefEqProofs [*] <;> omega) | fail) [-List.map_take, -List.map_drop, -List.length_flatMap, map_take', map_drop', wrap_in, nth_nat, opt_if, dec_t, dec_f, hdd]
    refine o_call rfl rfl q1 rfl rfl ?_
    simp -implicitDefEqProofs (disch := first | omega | (simp -implicitDefEqProofs <;> omega) | (simp -implicitDefEqProofs [*] <;> omega) | fail) [-List.map_take, -List.map_drop, -List.length_flatMap, map_take', map_drop', wrap_in, nth_nat, opt_if, dec_t, dec_f, hx0]
    refine o_call rfl rfl q2 rfl rfl ?_
    simp -implicitDefEqProofs (disch := first | omega | (simp -implicitDefEqProofs <;> omega) | (simp -implicitDefEqProofs [*] <;> omega) | fail) [-List.map_take, -List.map_drop, -List.length_flatMap, map_take', map_drop', wrap_in, nth_nat, opt_if, dec_t, dec_f]
    refine o_call rfl rfl q3 rfl rfl ?_
    simp -implicitDefEqProofs (disch := first | omega | (simp -implicitDefEqProofs <;> omega) | (simp -implicitDefEqProofs [*] <;> omega) | fail) [-List.map_take, -List.map_drop, -List.length_flatMap, map_take', map_drop', wrap_in, nth_nat, opt_if, dec_t, dec_f, Dk.d]

theorem drop_srt {l : List Ent} (h : Srt l) (n : List UInt8) : Srt (dropK l n) := List.Pairwise.sublist List.filter_sublist h
theorem drop_no {l : List Ent} {n : List UInt8} : ∀ e ∈ dropK l n, e.name ≠ n := fun e he => by have := (List.mem_filter.1 he).2; simpa using this
theorem ref08Rename (k : Dk) (hk : okK k) (name to : List UInt8) (hto : to.length ≤ 9223372036854775807) : Holds Try.prog 43 [.d k.d, .d (.str name), .d (.str to)] (.tup [.d (renameS k name to).1.d, .d (.int .i64 (renameS k name to).2)]) (fun _ => false) := by
  refine Holds.by (by kernel_rfl) Try.func43 (by kernel_rfl) rfl [] (by simp) (by kernel_rfl) (by kernel_rfl) rfl ?_
  conv in ccs _ => cbv
  obtain ⟨hk1, hk2⟩ := hk
  have q := ref08Good k hk1 (by omega)
  have hrg := good_right k
  have hok := ok_good ⟨hk1, hk2⟩
  unfold renameS
  generalize goodK k = d at *
  have hll := right_lens hrg
  have hdd : d.d = .agg [.slice (d.files.map FileD.d), .slice (d.now.map Ent.d), .slice (d.kept.map Ent.d)] := rfl
  have hin := right_in hrg
  have q1 := ref08Find d.now name (by omega)
  unfold findI at q1
  have q2 := ref08Without d.now name (by omega)
  have hdl := drop_len d.now name
  have hdl2 := drop_len (dropK d.now name) to
  have q3 := ref08Without (dropK d.now name) to (by omega)
  have qf := ref08Fair to hto
  cases hx : findK d.now name with
  | none =>
    rw [hx] at q1
    simp -implicitDefEqProofs (disch := first | omega | (simp -implicitDefEqProofs <;> omega) | (simp -implicitDefEqProofs [*] <;> omega) | fail) [-List.map_take, -List.map_drop, -List.length_flatMap, map_take', map_drop', wrap_in, nth_nat, opt_if, dec_t, dec_f, Dk.d]
    refine o_call rfl rfl q rfl rfl ?_
    simp -implicitDefEqProofs (disch := first | omega | (simp -implicitDefEqProofs <;> omega) | (simp -implicitDefEqProofs [*] <;> omega) | fail) [-List.map_take, -List.map_drop, -List.length_flatMap, map_take', map_drop', wrap_in, nth_nat, opt_if, dec_t, dec_f, hdd]
    refine o_call rfl rfl q1 rfl rfl ?_
    simp -implicitDefEqProofs (disch := first | omega | (simp -implicitDefEqProofs <;> omega) | (simp -implicitDefEqProofs [*] <;> omega) | fail) [-List.map_take, -List.map_drop, -List.length_flatMap, map_take', map_drop', wrap_in, nth_nat, opt_if, dec_t, dec_f]
  | some x =>
    rw [hx] at q1
    have hrx := find_rng hrg hx
    have hx0 : ¬ x < 0 := by omega
    have hs := named_srt (rightK_iff.1 hrg).2.1
    have q4 := ref08With (dropK (dropK d.now name) to) to x (by omega) (drop_srt (drop_srt hs name) to) drop_no
    have hpl := put_len (dropK (dropK d.now name) to) to x
    cases hf : fairN to with
    | false =>
      rw [hf] at qf
      simp -implicitDefEqProofs (disch := first | omega | (simp -implicitDefEqProofs <;> omega) | (simp -implicitDefEqProofs [*] <;> omega) | fail) [-List.map_take, -List.map_drop, -List.length_flatMap, map_take', map_drop', wrap_in, nth_nat, opt_if, dec_t, dec_f, Dk.d]
      refine o_call rfl rfl q rfl rfl ?_
      simp -implicitDefEqProofs (disch := first | omega | (simp -implicitDefEqProofs <;> omega) | (simp -implicitDefEqProofs [*] <;> omega) | fail) [-List.map_take, -List.map_drop, -List.length_flatMap, map_take', map_drop', wrap_in, nth_nat, opt_if, dec_t, dec_f, hdd]
      refine o_call rfl rfl q1 rfl rfl ?_
      simp -implicitDefEqProofs (disch := first | omega | (simp -implicitDefEqProofs <;> omega) | (simp -implicitDefEqProofs [*] <;> omega) | fail) [-List.map_take, -List.map_drop, -List.length_flatMap, map_take', map_drop', wrap_in, nth_nat, opt_if, dec_t, dec_f, hx0]
      refine o_call rfl rfl qf rfl rfl ?_
      simp -implicitDefEqProofs (disch := first | omega | (simp -implicitDefEqProofs <;> omega) | (simp -implicitDefEqProofs [*] <;> omega) | fail) [-List.map_take, -List.map_drop, -List.length_flatMap, map_take', map_drop', wrap_in, nth_nat, opt_if, dec_t, dec_f]
    | true =>
      have q5 := ref08Ordered ⟨d.files, putK (dropK (dropK d.now name) to) to x, d.kept⟩ ⟨hok.1.1, sized_put (sized_drop (sized_drop hok.1.2.1 name) to) hto x (by omega), hok.1.2.2⟩ ⟨inK_put (inK_drop (inK_drop hin.1 name) to) hrx.1 hrx.2, hin.2⟩ (by simp; omega)
      rw [hf] at qf
      simp -implicitDefEqProofs (disch := first | omega | (simp -implicitDefEqProofs <;> omega) | (simp -implicitDefEqProofs [*] <;> omega) | fail) [-List.map_take, -List.map_drop, -List.length_flatMap, map_take', map_drop', wrap_in, nth_nat, opt_if, dec_t, dec_f, Dk.d]
      refine o_call rfl rfl q rfl rfl ?_
      simp -implicitDefEqProofs (disch := first | omega | (simp -implicitDefEqProofs <;> omega) | (simp -implicitDefEqProofs [*] <;> omega) | fail) [-List.map_take, -List.map_drop, -List.length_flatMap, map_take', map_drop', wrap_in, nth_nat, opt_if, dec_t, dec_f, hdd]
      refine o_call rfl rfl q1 rfl rfl ?_
      simp -implicitDefEqProofs (disch := first | omega | (simp -implicitDefEqProofs <;> omega) | (simp -implicitDefEqProofs [*] <;> omega) | fail) [-List.map_take, -List.map_drop, -List.length_flatMap, map_take', map_drop', wrap_in, nth_nat, opt_if, dec_t, dec_f, hx0]
      refine o_call rfl rfl qf rfl rfl ?_
      simp -implicitDefEqProofs (disch := first | omega | (simp -implicitDefEqProofs <;> omega) | (simp -implicitDefEqProofs [*] <;> omega) | fail) [-List.map_take, -List.map_drop, -List.length_flatMap, map_take', map_drop', wrap_in, nth_nat, opt_if, dec_t, dec_f]
      refine o_call rfl rfl q2 rfl rfl ?_
      simp -implicitDefEqProofs (disch := first | omega | (simp -implicitDefEqProofs <;> omega) | (simp -implicitDefEqProofs [*] <;> omega) | fail) [-List.map_take, -List.map_drop, -List.length_flatMap, map_take', map_drop', wrap_in, nth_nat, opt_if, dec_t, dec_f]
      refine o_call rfl rfl q3 rfl rfl ?_
      simp -implicitDefEqProofs (disch := first | omega | (simp -implicitDefEqProofs <;> omega) | (simp -implicitDefEqProofs [*] <;> omega) | fail) [-List.map_take, -List.map_drop, -List.length_flatMap, map_take', map_drop', wrap_in, nth_nat, opt_if, dec_t, dec_f]
      refine o_call rfl rfl q4 rfl rfl ?_
      simp -implicitDefEqProofs (disch := first | omega | (simp -implicitDefEqProofs <;> omega) | (simp -implicitDefEqProofs [*] <;> omega) | fail) [-List.map_take, -List.map_drop, -List.length_flatMap, map_take', map_drop', wrap_in, nth_nat, opt_if, dec_t, dec_f]
      refine o_call rfl rfl q5 rfl rfl ?_
      simp -implicitDefEqProofs (disch := first | omega | (simp -implicitDefEqProofs <;> omega) | (simp -implicitDefEqProofs [*] <;> omega) | fail) [-List.map_take, -List.map_drop, -List.length_flatMap, map_take', map_drop', wrap_in, nth_nat, opt_if, dec_t, dec_f, Dk.d]

theorem ref08Sync (k : Dk) (hk : okK k) (name : List UInt8) : Holds Try.prog 41 [.d k.d, .d (.str name)] (.tup [.d (syncS k name).1.d, .d (.int .i64 (syncS k name).2)]) (fun _ => false) := by
  refine Holds.by (by kernel_rfl) Try.func41 (by kernel_rfl) rfl [] (by simp) (by kernel_rfl) (by kernel_rfl) rfl ?_
  conv in ccs _ => cbv
  obtain ⟨hk1, hk2⟩ := hk
  have q := ref08Good k hk1 (by omega)
  have hrg := good_right k
  have hok := ok_good ⟨hk1, hk2⟩
  unfold syncS
  generalize goodK k = d at *
  have hll := right_lens hrg
  have hdd : d.d = .agg [.slice (d.files.map FileD.d), .slice (d.now.map Ent.d), .slice (d.kept.map Ent.d)] := rfl
  have q1 := ref08Find d.now name (by omega)
  unfold findI at q1
  cases hx : findK d.now name with
  | none =>
    rw [hx] at q1
    simp -implicitDefEqProofs (disch := first | omega | (simp -implicitDefEqProofs <;> omega) | (simp -implicitDefEqProofs [*] <;> omega) | fail) [-List.map_take, -List.map_drop, -List.length_flatMap, map_take', map_drop', wrap_in, nth_nat, opt_if, dec_t, dec_f, Dk.d]
    refine o_call rfl rfl q rfl rfl ?_
    simp -implicitDefEqProofs (disch := first | omega | (simp -implicitDefEqProofs <;> omega) | (simp -implicitDefEqProofs [*] <;> omega) | fail) [-List.map_take, -List.map_drop, -List.length_flatMap, map_take', map_drop', wrap_in, nth_nat, opt_if, dec_t, dec_f, hdd]
    refine o_call rfl rfl q1 rfl rfl ?_
    simp -implicitDefEqProofs (disch := first | omega | (simp -implicitDefEqProofs <;> omega) | (simp -implicitDefEqProofs [*] <;> omega) | fail) [-List.map_take, -List.map_drop, -List.length_flatMap, map_take', map_drop', wrap_in, nth_nat, opt_if, dec_t, dec_f]
  | some x =>
    rw [hx] at q1
    have hrx := find_rng hrg hx
    obtain ⟨n, rfl⟩ := Int.eq_ofNat_of_zero_le hrx.1
    have hnl : n < d.files.length := by omega
    have hfa : fileAt d.files (n : Int) = d.files[n] := by simp [fileAt, List.getD_eq_getElem?_getD, hnl]
    have hdl := hok.1.1.2 _ (List.getElem_mem hnl)
    simp only [hfa]
    have q2 := ref08Set d n ⟨d.files[n].data, d.files[n].data.length⟩ (by omega) (by omega)
    simp -implicitDefEqProofs (disch := first | omega | (simp -implicitDefEqProofs <;> omega) | (simp -implicitDefEqProofs [*] <;> omega) | fail) [-List.map_take, -List.map_drop, -List.length_flatMap, map_take', map_drop', wrap_in, nth_nat, opt_if, dec_t, dec_f, Dk.d]
    refine o_call rfl rfl q rfl rfl ?_
    simp -implicitDefEqProofs (disch := first | omega | (simp -implicitDefEqProofs <;> omega) | (simp -implicitDefEqProofs [*] <;> omega) | fail) [-List.map_take, -List.map_drop, -List.length_flatMap, map_take', map_drop', wrap_in, nth_nat, opt_if, dec_t, dec_f, hdd]
    refine o_call rfl rfl q1 rfl rfl ?_
    simp -implicitDefEqProofs (disch := first | omega | (simp -implicitDefEqProofs <;> omega) | (simp -implicitDefEqProofs [*] <;> omega) | fail) [-List.map_take, -List.map_drop, -List.length_flatMap, map_take', map_drop', wrap_in, nth_nat, opt_if, dec_t, dec_f]
    refine o_call rfl rfl q2 rfl rfl ?_
    simp -implicitDefEqProofs (disch := first | omega | (simp -implicitDefEqProofs <;> omega) | (simp -implicitDefEqProofs [*] <;> omega) | fail) [-List.map_take, -List.map_drop, -List.length_flatMap, map_take', map_drop', wrap_in, nth_nat, opt_if, dec_t, dec_f, Dk.d]

theorem ref08Cut (k : Dk) (hk : okK k) (name : List UInt8) (m : Int) : Holds Try.prog 42 [.d k.d, .d (.str name), .d (.int .i64 m)] (.tup [.d (cutS k name m).1.d, .d (.int .i64 (cutS k name m).2)]) (fun _ => false) := by
  refine Holds.by (by kernel_rfl) Try.func42 (by kernel_rfl) rfl [] (by simp) (by kernel_rfl) (by kernel_rfl) rfl ?_
  conv in ccs _ => cbv
  obtain ⟨hk1, hk2⟩ := hk
  have q := ref08Good k hk1 (by omega)
  have hrg := good_right k
  have hok := ok_good ⟨hk1, hk2⟩
  unfold cutS
  generalize goodK k = d at *
  have hll := right_lens hrg
  have hdd : d.d = .agg [.slice (d.files.map FileD.d), .slice (d.now.map Ent.d), .slice (d.kept.map Ent.d)] := rfl
  have q1 := ref08Find d.now name (by omega)
  unfold findI at q1
  cases hx : findK d.now name with
  | none =>
    rw [hx] at q1
    simp -implicitDefEqProofs (disch := first | omega | (simp -implicitDefEqProofs <;> omega) | (simp -implicitDefEqProofs [*] <;> omega) | fail) [-List.map_take, -List.map_drop, -List.length_flatMap, map_take', map_drop', wrap_in, nth_nat, opt_if, dec_t, dec_f, Dk.d]
    refine o_call rfl rfl q rfl rfl ?_
    simp -implicitDefEqProofs (disch := first | omega | (simp -implicitDefEqProofs <;> omega) | (simp -implicitDefEqProofs [*] <;> omega) | fail) [-List.map_take, -List.map_drop, -List.length_flatMap, map_take', map_drop', wrap_in, nth_nat, opt_if, dec_t, dec_f, hdd]
    refine o_call rfl rfl q1 rfl rfl ?_
    simp -implicitDefEqProofs (disch := first | omega | (simp -implicitDefEqProofs <;> omega) | (simp -implicitDefEqProofs [*] <;> omega) | fail) [-List.map_take, -List.map_drop, -List.length_flatMap, map_take', map_drop', wrap_in, nth_nat, opt_if, dec_t, dec_f]
  | some x =>
    rw [hx] at q1
    have hrx := find_rng hrg hx
    obtain ⟨n, rfl⟩ := Int.eq_ofNat_of_zero_le hrx.1
    have hnl : n < d.files.length := by omega
    have hfa : fileAt d.files (n : Int) = d.files[n] := by simp [fileAt, List.getD_eq_getElem?_getD, hnl]
    have hdl := hok.1.1.2 _ (List.getElem_mem hnl)
    simp only [hfa]
    by_cases hm : m < 0
    · simp -implicitDefEqProofs (disch := first | omega | (simp -implicitDefEqProofs <;> omega) | (simp -implicitDefEqProofs [*] <;> omega) | fail) [-List.map_take, -List.map_drop, -List.length_flatMap, map_take', map_drop', wrap_in, nth_nat, opt_if, dec_t, dec_f, Dk.d]
      refine o_call rfl rfl q rfl rfl ?_
      simp -implicitDefEqProofs (disch := first | omega | (simp -implicitDefEqProofs <;> omega) | (simp -implicitDefEqProofs [*] <;> omega) | fail) [-List.map_take, -List.map_drop, -List.length_flatMap, map_take', map_drop', wrap_in, nth_nat, opt_if, dec_t, dec_f, hdd]
      refine o_call rfl rfl q1 rfl rfl ?_
      simp -implicitDefEqProofs (disch := first | omega | (simp -implicitDefEqProofs <;> omega) | (simp -implicitDefEqProofs [*] <;> omega) | fail) [-List.map_take, -List.map_drop, -List.length_flatMap, map_take', map_drop', wrap_in, nth_nat, opt_if, dec_t, dec_f, hm]
    · by_cases hm2 : (d.files[n].data.length : Int) < m
      · simp -implicitDefEqProofs (disch := first | omega | (simp -implicitDefEqProofs <;> omega) | (simp -implicitDefEqProofs [*] <;> omega) | fail) [-List.map_take, -List.map_drop, -List.length_flatMap, map_take', map_drop', wrap_in, nth_nat, opt_if, dec_t, dec_f, Dk.d]
        refine o_call rfl rfl q rfl rfl ?_
        simp -implicitDefEqProofs (disch := first | omega | (simp -implicitDefEqProofs <;> omega) | (simp -implicitDefEqProofs [*] <;> omega) | fail) [-List.map_take, -List.map_drop, -List.length_flatMap, map_take', map_drop', wrap_in, nth_nat, opt_if, dec_t, dec_f, hdd]
        refine o_call rfl rfl q1 rfl rfl ?_
        simp -implicitDefEqProofs (disch := first | omega | (simp -implicitDefEqProofs <;> omega) | (simp -implicitDefEqProofs [*] <;> omega) | fail) [-List.map_take, -List.map_drop, -List.length_flatMap, map_take', map_drop', wrap_in, nth_nat, opt_if, dec_t, dec_f, hm, hm2]
      · obtain ⟨j, rfl⟩ := Int.eq_ofNat_of_zero_le (show 0 ≤ m by omega)
        have q2 := ref08Set d n ⟨d.files[n].data.take j, j⟩ (by omega) (by omega)
        have hm3 : ¬ d.files[n].data.length < j := by omega
        simp -implicitDefEqProofs (disch := first | omega | (simp -implicitDefEqProofs <;> omega) | (simp -implicitDefEqProofs [*] <;> omega) | fail) [-List.map_take, -List.map_drop, -List.length_flatMap, map_take', map_drop', wrap_in, nth_nat, opt_if, dec_t, dec_f, Dk.d]
        refine o_call rfl rfl q rfl rfl ?_
        simp -implicitDefEqProofs (disch := first | omega | (simp -implicitDefEqProofs <;> omega) | (simp -implicitDefEqProofs [*] <;> omega) | fail) [-List.map_take, -List.map_drop, -List.length_flatMap, map_take', map_drop', wrap_in, nth_nat, opt_if, dec_t, dec_f, hdd]
        refine o_call rfl rfl q1 rfl rfl ?_
        simp -implicitDefEqProofs (disch := first | omega | (simp -implicitDefEqProofs <;> omega) | (simp -implicitDefEqProofs [*] <;> omega) | fail) [-List.map_take, -List.map_drop, -List.length_flatMap, map_take', map_drop', wrap_in, nth_nat, opt_if, dec_t, dec_f, hm, hm2]
        refine o_call rfl rfl q2 rfl rfl ?_
        simp -implicitDefEqProofs (disch := first | omega | (simp -implicitDefEqProofs <;> omega) | (simp -implicitDefEqProofs [*] <;> omega) | fail) [-List.map_take, -List.map_drop, -List.length_flatMap, map_take', map_drop', wrap_in, nth_nat, opt_if, dec_t, dec_f, Dk.d, hm3]

theorem find_names {l : List Ent} {name : List UInt8} (h : findK l name = none) : ∀ e ∈ l, e.name ≠ name := by
  unfold findK at h
  rw [Option.map_eq_none_iff, List.find?_eq_none] at h
  intro e he
  simpa using h e he
theorem ref08Append (k : Dk) (hk : okK k) (name b : List UInt8) (hn : name.length ≤ 9223372036854775807) (hb : b.length ≤ 1000000) : Holds Try.prog 40 [.d k.d, .d (.str name), .d (.slice (b.map byteD))] (.tup [.d (appendS k name b).1.d, .d (.int .i64 (appendS k name b).2)]) (fun _ => false) := by
  refine Holds.by (by kernel_rfl) Try.func40 (by kernel_rfl) rfl [60009, 70034, 70037, 70041] (by simp) (by kernel_rfl) (by kernel_rfl) rfl ?_
  conv in ccs _ => cbv
  obtain ⟨hk1, hk2⟩ := hk
  have q := ref08Good k hk1 (by omega)
  have hrg := good_right k
  have hok := ok_good ⟨hk1, hk2⟩
  unfold appendS
  generalize goodK k = d at *
  have hll := right_lens hrg
  have hdd : d.d = .agg [.slice (d.files.map FileD.d), .slice (d.now.map Ent.d), .slice (d.kept.map Ent.d)] := rfl
  have q1 := ref08Find d.now name (by omega)
  unfold findI at q1
  have qf := ref08Fair name hn
  cases hf : fairN name with
  | false =>
    rw [hf] at qf
    simp -implicitDefEqProofs (disch := first | omega | (simp -implicitDefEqProofs <;> omega) | (simp -implicitDefEqProofs [*] <;> omega) | fail) [-List.map_take, -List.map_drop, -List.length_flatMap, map_take', map_drop', wrap_in, nth_nat, opt_if, dec_t, dec_f, Dk.d]
    refine o_call rfl rfl q rfl rfl ?_
    simp -implicitDefEqProofs (disch := first | omega | (simp -implicitDefEqProofs <;> omega) | (simp -implicitDefEqProofs [*] <;> omega) | fail) [-List.map_take, -List.map_drop, -List.length_flatMap, map_take', map_drop', wrap_in, nth_nat, opt_if, dec_t, dec_f, hdd]
    refine o_call rfl rfl qf rfl rfl ?_
    simp -implicitDefEqProofs (disch := first | omega | (simp -implicitDefEqProofs <;> omega) | (simp -implicitDefEqProofs [*] <;> omega) | fail) [-List.map_take, -List.map_drop, -List.length_flatMap, map_take', map_drop', wrap_in, nth_nat, opt_if, dec_t, dec_f]
  | true =>
  rw [hf] at qf
  cases hx : findK d.now name with
  | none =>
    rw [hx] at q1
    by_cases h20 : (20 : Int) ≤ d.files.length
    · have hc : d.files.length ≥ 20 ∨ b.length > 20000 := by omega
      simp -implicitDefEqProofs (disch := first | omega | (simp -implicitDefEqProofs <;> omega) | (simp -implicitDefEqProofs [*] <;> omega) | fail) [-List.map_take, -List.map_drop, -List.length_flatMap, map_take', map_drop', wrap_in, nth_nat, opt_if, dec_t, dec_f, Dk.d]
      refine o_call rfl rfl q rfl rfl ?_
      simp -implicitDefEqProofs (disch := first | omega | (simp -implicitDefEqProofs <;> omega) | (simp -implicitDefEqProofs [*] <;> omega) | fail) [-List.map_take, -List.map_drop, -List.length_flatMap, map_take', map_drop', wrap_in, nth_nat, opt_if, dec_t, dec_f, hdd]
      refine o_call rfl rfl qf rfl rfl ?_
      simp -implicitDefEqProofs (disch := first | omega | (simp -implicitDefEqProofs <;> omega) | (simp -implicitDefEqProofs [*] <;> omega) | fail) [-List.map_take, -List.map_drop, -List.length_flatMap, map_take', map_drop', wrap_in, nth_nat, opt_if, dec_t, dec_f]
      refine o_call rfl rfl q1 rfl rfl ?_
      simp -implicitDefEqProofs (disch := first | omega | (simp -implicitDefEqProofs <;> omega) | (simp -implicitDefEqProofs [*] <;> omega) | fail) [-List.map_take, -List.map_drop, -List.length_flatMap, map_take', map_drop', wrap_in, nth_nat, opt_if, dec_t, dec_f, h20, hc]
    · by_cases hbl : (20000 : Int) < b.length
      · have hc : d.files.length ≥ 20 ∨ b.length > 20000 := by omega
        simp -implicitDefEqProofs (disch := first | omega | (simp -implicitDefEqProofs <;> omega) | (simp -implicitDefEqProofs [*] <;> omega) | fail) [-List.map_take, -List.map_drop, -List.length_flatMap, map_take', map_drop', wrap_in, nth_nat, opt_if, dec_t, dec_f, Dk.d]
        refine o_call rfl rfl q rfl rfl ?_
        simp -implicitDefEqProofs (disch := first | omega | (simp -implicitDefEqProofs <;> omega) | (simp -implicitDefEqProofs [*] <;> omega) | fail) [-List.map_take, -List.map_drop, -List.length_flatMap, map_take', map_drop', wrap_in, nth_nat, opt_if, dec_t, dec_f, hdd]
        refine o_call rfl rfl qf rfl rfl ?_
        simp -implicitDefEqProofs (disch := first | omega | (simp -implicitDefEqProofs <;> omega) | (simp -implicitDefEqProofs [*] <;> omega) | fail) [-List.map_take, -List.map_drop, -List.length_flatMap, map_take', map_drop', wrap_in, nth_nat, opt_if, dec_t, dec_f]
        refine o_call rfl rfl q1 rfl rfl ?_
        simp -implicitDefEqProofs (disch := first | omega | (simp -implicitDefEqProofs <;> omega) | (simp -implicitDefEqProofs [*] <;> omega) | fail) [-List.map_take, -List.map_drop, -List.length_flatMap, map_take', map_drop', wrap_in, nth_nat, opt_if, dec_t, dec_f, h20, hbl, hc]
      · have hc : ¬ (d.files.length ≥ 20 ∨ b.length > 20000) := by omega
        have qp := ref08With d.now name d.files.length (by omega) (named_srt (rightK_iff.1 hrg).2.1) (find_names hx)
        have hin := right_in hrg
        have hpl := put_len d.now name d.files.length
        have qo := ref08Ordered ⟨d.files ++ [⟨b, 0⟩], putK d.now name d.files.length, d.kept⟩ ⟨⟨by simp; omega, fun f hf => by
            rcases List.mem_append.1 hf with h | h
            · exact hok.1.1.2 f h
            · simp at h; subst h; simp; omega⟩, sized_put hok.1.2.1 hn _ (by omega), hok.1.2.2⟩
          ⟨inK_put (fun e he => by have := hin.1 e he; simp; omega) (by omega) (by simp; omega), fun e he => by have := hin.2 e he; simp; omega⟩ (by simp; omega)
        have hqa : (⟨d.files ++ [⟨b, 0⟩], putK d.now name d.files.length, d.kept⟩ : Dk).d = .agg [.slice (d.files.map FileD.d ++ [FileD.d ⟨b, 0⟩]), .slice ((putK d.now name d.files.length).map Ent.d), .slice (d.kept.map Ent.d)] := by simp [Dk.d]
        rw [hqa] at qo
        simp -implicitDefEqProofs (disch := first | omega | (simp -implicitDefEqProofs <;> omega) | (simp -implicitDefEqProofs [*] <;> omega) | fail) [-List.map_take, -List.map_drop, -List.length_flatMap, map_take', map_drop', wrap_in, nth_nat, opt_if, dec_t, dec_f, Dk.d]
        refine o_call rfl rfl q rfl rfl ?_
        simp -implicitDefEqProofs (disch := first | omega | (simp -implicitDefEqProofs <;> omega) | (simp -implicitDefEqProofs [*] <;> omega) | fail) [-List.map_take, -List.map_drop, -List.length_flatMap, map_take', map_drop', wrap_in, nth_nat, opt_if, dec_t, dec_f, hdd]
        refine o_call rfl rfl qf rfl rfl ?_
        simp -implicitDefEqProofs (disch := first | omega | (simp -implicitDefEqProofs <;> omega) | (simp -implicitDefEqProofs [*] <;> omega) | fail) [-List.map_take, -List.map_drop, -List.length_flatMap, map_take', map_drop', wrap_in, nth_nat, opt_if, dec_t, dec_f]
        refine o_call rfl rfl q1 rfl rfl ?_
        simp -implicitDefEqProofs (disch := first | omega | (simp -implicitDefEqProofs <;> omega) | (simp -implicitDefEqProofs [*] <;> omega) | fail) [-List.map_take, -List.map_drop, -List.length_flatMap, map_take', map_drop', wrap_in, nth_nat, opt_if, dec_t, dec_f, h20, hbl, hc]
        refine o_call rfl rfl qp rfl rfl ?_
        simp -implicitDefEqProofs (disch := first | omega | (simp -implicitDefEqProofs <;> omega) | (simp -implicitDefEqProofs [*] <;> omega) | fail) [-List.map_take, -List.map_drop, -List.length_flatMap, map_take', map_drop', wrap_in, nth_nat, opt_if, dec_t, dec_f]
        refine o_call rfl rfl qo rfl rfl ?_
        simp -implicitDefEqProofs (disch := first | omega | (simp -implicitDefEqProofs <;> omega) | (simp -implicitDefEqProofs [*] <;> omega) | fail) [-List.map_take, -List.map_drop, -List.length_flatMap, map_take', map_drop', wrap_in, nth_nat, opt_if, dec_t, dec_f, Dk.d]
  | some x =>
    rw [hx] at q1
    have hrx := find_rng hrg hx
    obtain ⟨n, rfl⟩ := Int.eq_ofNat_of_zero_le hrx.1
    have hnl : n < d.files.length := by omega
    have hfa : fileAt d.files (n : Int) = d.files[n] := by simp [fileAt, List.getD_eq_getElem?_getD, hnl]
    have hdl := hok.1.1.2 _ (List.getElem_mem hnl)
    simp only [hfa]
    by_cases hc2 : (20000 : Int) < d.files[n].data.length + b.length
    · have hc : d.files[n].data.length + b.length > 20000 := by omega
      simp -implicitDefEqProofs (disch := first | omega | (simp -implicitDefEqProofs <;> omega) | (simp -implicitDefEqProofs [*] <;> omega) | fail) [-List.map_take, -List.map_drop, -List.length_flatMap, map_take', map_drop', wrap_in, nth_nat, opt_if, dec_t, dec_f, Dk.d]
      refine o_call rfl rfl q rfl rfl ?_
      simp -implicitDefEqProofs (disch := first | omega | (simp -implicitDefEqProofs <;> omega) | (simp -implicitDefEqProofs [*] <;> omega) | fail) [-List.map_take, -List.map_drop, -List.length_flatMap, map_take', map_drop', wrap_in, nth_nat, opt_if, dec_t, dec_f, hdd]
      refine o_call rfl rfl qf rfl rfl ?_
      simp -implicitDefEqProofs (disch := first | omega | (simp -implicitDefEqProofs <;> omega) | (simp -implicitDefEqProofs [*] <;> omega) | fail) [-List.map_take, -List.map_drop, -List.length_flatMap, map_take', map_drop', wrap_in, nth_nat, opt_if, dec_t, dec_f]
      refine o_call rfl rfl q1 rfl rfl ?_
      simp -implicitDefEqProofs (disch := first | omega | (simp -implicitDefEqProofs <;> omega) | (simp -implicitDefEqProofs [*] <;> omega) | fail) [-List.map_take, -List.map_drop, -List.length_flatMap, map_take', map_drop', wrap_in, nth_nat, opt_if, dec_t, dec_f, hc2, hc]
    · have hc : ¬ d.files[n].data.length + b.length > 20000 := by omega
      have q2 := ref08Set d n ⟨d.files[n].data ++ b, d.files[n].safe⟩ (by omega) (by omega)
      have hfd : FileD.d ⟨d.files[n].data ++ b, d.files[n].safe⟩ = .agg [.slice (d.files[n].data.map byteD ++ b.map byteD), .int .i64 d.files[n].safe] := by simp [FileD.d]
      rw [hfd] at q2
      simp -implicitDefEqProofs (disch := first | omega | (simp -implicitDefEqProofs <;> omega) | (simp -implicitDefEqProofs [*] <;> omega) | fail) [-List.map_take, -List.map_drop, -List.length_flatMap, map_take', map_drop', wrap_in, nth_nat, opt_if, dec_t, dec_f, Dk.d]
      refine o_call rfl rfl q rfl rfl ?_
      simp -implicitDefEqProofs (disch := first | omega | (simp -implicitDefEqProofs <;> omega) | (simp -implicitDefEqProofs [*] <;> omega) | fail) [-List.map_take, -List.map_drop, -List.length_flatMap, map_take', map_drop', wrap_in, nth_nat, opt_if, dec_t, dec_f, hdd]
      refine o_call rfl rfl qf rfl rfl ?_
      simp -implicitDefEqProofs (disch := first | omega | (simp -implicitDefEqProofs <;> omega) | (simp -implicitDefEqProofs [*] <;> omega) | fail) [-List.map_take, -List.map_drop, -List.length_flatMap, map_take', map_drop', wrap_in, nth_nat, opt_if, dec_t, dec_f]
      refine o_call rfl rfl q1 rfl rfl ?_
      simp -implicitDefEqProofs (disch := first | omega | (simp -implicitDefEqProofs <;> omega) | (simp -implicitDefEqProofs [*] <;> omega) | fail) [-List.map_take, -List.map_drop, -List.length_flatMap, map_take', map_drop', wrap_in, nth_nat, opt_if, dec_t, dec_f, hc2, hc]
      refine o_call rfl rfl q2 rfl rfl ?_
      simp -implicitDefEqProofs (disch := first | omega | (simp -implicitDefEqProofs <;> omega) | (simp -implicitDefEqProofs [*] <;> omega) | fail) [-List.map_take, -List.map_drop, -List.length_flatMap, map_take', map_drop', wrap_in, nth_nat, opt_if, dec_t, dec_f, Dk.d]

/-- What is left of a name's file, and its name, in their turn. -/
def crFile (k : Dk) (l : List Ent) (keep : List Int) (i : Nat) : FileD := cutF (fileAt k.files (l.getD i default).file) (leftN (fileAt k.files (l.getD i default).file) keep[i]?)
def crEnt (l : List Ent) (i : Nat) : Ent := ⟨(l.getD i default).name, i⟩
def rcrI (d : Dk) (l : List Ent) (keep : List Int) (i : Nat) (S : PS) : Prop :=
  i ≤ l.length ∧ S.t 1 = .d (.slice (keep.map intD)) ∧ S.t 3 = .ptr (FO + 3) 1 0 ∧ S.t 6 = .ptr (FO + 6) 1 0 ∧ S.t 7 = .d (.slice (l.map Ent.d)) ∧ S.t 8 = .ptr (FO + 8) 1 0 ∧ S.t 9 = .d (.int .i64 i) ∧ S.fo = FO ∧ S.gen (FO + 3) = 1 ∧ S.box (FO + 3) = (cells d.d).map .d ∧
    S.gen (FO + 6) = 1 ∧ S.box (FO + 6) = [.d (.slice []), .d (.slice []), .d (.slice [])] ∧ S.gen (FO + 8) = 1 ∧ S.box (FO + 8) = [.d (.slice (((List.range i).map (crFile d l keep)).map FileD.d)), .d (.slice (((List.range i).map (crEnt l)).map Ent.d)), .d (.slice [])] ∧ S.own (.b (FO + 8) 0) = true ∧ S.own (.b (FO + 8) 1) = true
theorem ref08Crash (k : Dk) (hk : okK k) (keep : List Int) (hkp : keep.length ≤ 1000000) (dir : Bool) : Holds Try.prog 46 [.d k.d, .d (.slice (keep.map intD)), .d (.bool dir)] (.d (crashS k keep dir).d) (fun _ => false) := by
  refine Holds.by (by kernel_rfl) Try.func46 (by kernel_rfl) rfl [70026, 70029, 70031, 70032, 70033, 60010, 67, 78] (by simp) (by kernel_rfl) (by kernel_rfl) rfl ?_
  conv in ccs _ => cbv
  obtain ⟨hk1, hk2⟩ := hk
  have q := ref08Good k hk1 (by omega)
  have hrg := good_right k
  have hok := ok_good ⟨hk1, hk2⟩
  have hcr : (crashS k keep dir).d = .agg [.slice (((List.range (crashL k dir).length).map (crFile (goodK k) (crashL k dir) keep)).map FileD.d), .slice (((List.range (crashL k dir).length).map (crEnt (crashL k dir))).map Ent.d), .slice (((List.range (crashL k dir).length).map (crEnt (crashL k dir))).map Ent.d)] := rfl
  rw [hcr]
  clear hcr
  unfold crashL
  generalize goodK k = d at *
  have hll := right_lens hrg
  have hdd : d.d = .agg [.slice (d.files.map FileD.d), .slice (d.now.map Ent.d), .slice (d.kept.map Ent.d)] := rfl
  have hm : namedS (if dir = true then d.now else d.kept) d.files.length = true := by
    obtain ⟨g1, g2, g3, g4, g5⟩ := rightK_iff.1 hrg
    cases dir <;> simp [g2, g3]
  have hle : (if dir = true then d.now else d.kept).length ≤ 20 := by cases dir <;> simp <;> omega
  obtain ⟨l, hl⟩ : ∃ l, l = if dir = true then d.now else d.kept := ⟨_, rfl⟩
  rw [← hl] at hm hle ⊢
  have hin := named_in hm
  have hfo := (rightK_iff.1 hrg).2.2.2.1
  simp -implicitDefEqProofs (disch := first | omega | (simp -implicitDefEqProofs <;> omega) | (simp -implicitDefEqProofs [*] <;> omega) | fail) [-List.map_take, -List.map_drop, -List.length_flatMap, map_take', map_drop', wrap_in, nth_nat, opt_if, dec_t, dec_f, Dk.d]
  refine o_call rfl rfl q rfl rfl ?_
  simp -implicitDefEqProofs (disch := first | omega | (simp -implicitDefEqProofs <;> omega) | (simp -implicitDefEqProofs [*] <;> omega) | fail) [-List.map_take, -List.map_drop, -List.length_flatMap, map_take', map_drop', wrap_in, nth_nat, opt_if, dec_t, dec_f, hdd]
  refine cnd_join (fun S => S.t 1 = .d (.slice (keep.map intD)) ∧ S.t 3 = .ptr (FO + 3) 1 0 ∧ S.t 6 = .ptr (FO + 6) 1 0 ∧ S.t 7 = .d (.slice (l.map Ent.d)) ∧ S.fo = FO ∧ S.gen (FO + 3) = 1 ∧ S.box (FO + 3) = (cells d.d).map .d ∧ S.gen (FO + 6) = 1 ∧ S.box (FO + 6) = [.d (.slice []), .d (.slice []), .d (.slice [])] ∧ S.gen (FO + 8) = 0) ?_ ?_ ?_
  · intro hdir
    rw [if_pos hdir] at hl
    simp -implicitDefEqProofs (disch := first | omega | (simp -implicitDefEqProofs <;> omega) | (simp -implicitDefEqProofs [*] <;> omega) | fail) [-List.map_take, -List.map_drop, -List.length_flatMap, map_take', map_drop', wrap_in, nth_nat, opt_if, dec_t, dec_f, hl]
  · intro hdir
    rw [if_neg (by simp [hdir])] at hl
    simp -implicitDefEqProofs (disch := first | omega | (simp -implicitDefEqProofs <;> omega) | (simp -implicitDefEqProofs [*] <;> omega) | fail) [-List.map_take, -List.map_drop, -List.length_flatMap, map_take', map_drop', wrap_in, nth_nat, opt_if, dec_t, dec_f, hl]
  clear q
  rintro S ⟨e1, e3, e6, e7, efo, g3, b3, g6, b6, g8⟩
  simp -implicitDefEqProofs (disch := first | omega | (simp -implicitDefEqProofs <;> omega) | (simp -implicitDefEqProofs [*] <;> omega) | fail) [-List.map_take, -List.map_drop, -List.length_flatMap, map_take', map_drop', wrap_in, nth_nat, opt_if, dec_t, dec_f, e1, e3, e6, e7, efo, g8]
  refine lp (rcrI d l keep) (fun i => l.length - i) 0 ⟨by omega, by simp -implicitDefEqProofs (disch := first | omega | (simp -implicitDefEqProofs <;> omega) | (simp -implicitDefEqProofs [*] <;> omega) | fail) [-List.map_take, -List.map_drop, -List.length_flatMap, map_take', map_drop', wrap_in, nth_nat, opt_if, dec_t, dec_f, e1], by simp -implicitDefEqProofs (disch := first | omega | (simp -implicitDefEqProofs <;> omega) | (simp -implicitDefEqProofs [*] <;> omega) | fail) [-List.map_take, -List.map_drop, -List.length_flatMap, map_take', map_drop', wrap_in, nth_nat, opt_if, dec_t, dec_f, e3], by simp -implicitDefEqProofs (disch := first | omega | (simp -implicitDefEqProofs <;> omega) | (simp -implicitDefEqProofs [*] <;> omega) | fail) [-List.map_take, -List.map_drop, -List.length_flatMap, map_take', map_drop', wrap_in, nth_nat, opt_if, dec_t, dec_f, e6], by simp -implicitDefEqProofs (disch := first | omega | (simp -implicitDefEqProofs <;> omega) | (simp -implicitDefEqProofs [*] <;> omega) | fail) [-List.map_take, -List.map_drop, -List.length_flatMap, map_take', map_drop', wrap_in, nth_nat, opt_if, dec_t, dec_f, e7], by simp -implicitDefEqProofs (disch := first | omega | (simp -implicitDefEqProofs <;> omega) | (simp -implicitDefEqProofs [*] <;> omega) | fail) [-List.map_take, -List.map_drop, -List.length_flatMap, map_take', map_drop', wrap_in, nth_nat, opt_if, dec_t, dec_f], by simp, by simp -implicitDefEqProofs (disch := first | omega | (simp -implicitDefEqProofs <;> omega) | (simp -implicitDefEqProofs [*] <;> omega) | fail) [-List.map_take, -List.map_drop, -List.length_flatMap, map_take', map_drop', wrap_in, nth_nat, opt_if, dec_t, dec_f, efo], by simp -implicitDefEqProofs (disch := first | omega | (simp -implicitDefEqProofs <;> omega) | (simp -implicitDefEqProofs [*] <;> omega) | fail) [-List.map_take, -List.map_drop, -List.length_flatMap, map_take', map_drop', wrap_in, nth_nat, opt_if, dec_t, dec_f, g3, efo], by simp -implicitDefEqProofs (disch := first | omega | (simp -implicitDefEqProofs <;> omega) | (simp -implicitDefEqProofs [*] <;> omega) | fail) [-List.map_take, -List.map_drop, -List.length_flatMap, map_take', map_drop', wrap_in, nth_nat, opt_if, dec_t, dec_f, b3, efo], by simp -implicitDefEqProofs (disch := first | omega | (simp -implicitDefEqProofs <;> omega) | (simp -implicitDefEqProofs [*] <;> omega) | fail) [-List.map_take, -List.map_drop, -List.length_flatMap, map_take', map_drop', wrap_in, nth_nat, opt_if, dec_t, dec_f, g6, efo], by simp -implicitDefEqProofs (disch := first | omega | (simp -implicitDefEqProofs <;> omega) | (simp -implicitDefEqProofs [*] <;> omega) | fail) [-List.map_take, -List.map_drop, -List.length_flatMap, map_take', map_drop', wrap_in, nth_nat, opt_if, dec_t, dec_f, b6, efo], by simp -implicitDefEqProofs (disch := first | omega | (simp -implicitDefEqProofs <;> omega) | (simp -implicitDefEqProofs [*] <;> omega) | fail) [-List.map_take, -List.map_drop, -List.length_flatMap, map_take', map_drop', wrap_in, nth_nat, opt_if, dec_t, dec_f, g8, efo], by simp -implicitDefEqProofs (disch := first | omega | (simp -implicitDefEqProofs <;> omega) | (simp -implicitDefEqProofs [*] <;> omega) | fail) [-List.map_take, -List.map_drop, -List.length_flatMap, map_take', map_drop', wrap_in, nth_nat, opt_if, dec_t, dec_f, efo], by simp -implicitDefEqProofs (disch := first | omega | (simp -implicitDefEqProofs <;> omega) | (simp -implicitDefEqProofs [*] <;> omega) | fail) [-List.map_take, -List.map_drop, -List.length_flatMap, map_take', map_drop', wrap_in, nth_nat, opt_if, dec_t, dec_f, efo], by simp -implicitDefEqProofs (disch := first | omega | (simp -implicitDefEqProofs <;> omega) | (simp -implicitDefEqProofs [*] <;> omega) | fail) [-List.map_take, -List.map_drop, -List.length_flatMap, map_take', map_drop', wrap_in, nth_nat, opt_if, dec_t, dec_f, efo]⟩ ?_
  clear e1 e3 e6 e7 efo g3 b3 g6 b6 g8 S
  rintro i S ⟨hi, e1, e3, e6, e7, e8, e9, efo, g3, b3, g6, b6, g8, b8, o80, o81⟩
  by_cases hlt : i < l.length
  · have k6 : (i : Int) < l.length := by omega
    obtain ⟨f0, f1⟩ := hin _ (List.getElem_mem hlt)
    obtain ⟨n, hn⟩ := Int.eq_ofNat_of_zero_le f0
    have hnl : n < d.files.length := by omega
    have hdl := hok.1.1.2 _ (List.getElem_mem hnl)
    have hfk := List.all_eq_true.1 hfo _ (List.getElem_mem hnl)
    simp only [fileOk, decide_eq_true_eq] at hfk
    obtain ⟨w1, w2, w3⟩ := hfk
    have hfs : (List.range (i + 1)).map (crFile d l keep) = (List.range i).map (crFile d l keep) ++ [cutF d.files[n] (leftN d.files[n] keep[i]?)] := by
      rw [List.range_succ, List.map_append]
      congr 1
      simp [crFile, List.getD_eq_getElem?_getD, hlt, hn, fileAt, hnl]
    have hes : (List.range (i + 1)).map (crEnt l) = (List.range i).map (crEnt l) ++ [⟨l[i].name, i⟩] := by
      rw [List.range_succ, List.map_append]
      congr 1
      simp [crEnt, List.getD_eq_getElem?_getD, hlt]
    by_cases hkl : i < keep.length
    · have k7 : (i : Int) < keep.length := by omega
      rw [List.getElem?_eq_getElem hkl] at hfs
      obtain ⟨m, hm2⟩ := Int.eq_ofNat_of_zero_le (show 0 ≤ leftN d.files[n] (some keep[i]) by simp only [leftN]; omega)
      have hmd : m ≤ d.files[n].data.length := by simp only [leftN] at hm2; omega
      have hlv := hm2
      simp only [leftN] at hm2
      by_cases hk0 : 0 < keep[i]
      · by_cases hkb : (d.files[n].data.length : Int) - d.files[n].safe < keep[i]
        · have hme : m = d.files[n].data.length := by omega
          subst hme
          simp -implicitDefEqProofs (disch := first | omega | (simp -implicitDefEqProofs <;> omega) | (simp -implicitDefEqProofs [*] <;> omega) | fail) [-List.map_take, -List.map_drop, -List.length_flatMap, map_take', map_drop', wrap_in, nth_nat, opt_if, dec_t, dec_f, e1, e3, e6, e7, e8, e9, efo, g3, b3, g6, b6, g8, b8, o80, o81, k6, k7, hn, hk0, hkb, intD]
          exact nxt_of (i + 1) ⟨by omega, by simp -implicitDefEqProofs (disch := first | omega | (simp -implicitDefEqProofs <;> omega) | (simp -implicitDefEqProofs [*] <;> omega) | fail) [-List.map_take, -List.map_drop, -List.length_flatMap, map_take', map_drop', wrap_in, nth_nat, opt_if, dec_t, dec_f, e1], by simp -implicitDefEqProofs (disch := first | omega | (simp -implicitDefEqProofs <;> omega) | (simp -implicitDefEqProofs [*] <;> omega) | fail) [-List.map_take, -List.map_drop, -List.length_flatMap, map_take', map_drop', wrap_in, nth_nat, opt_if, dec_t, dec_f, e3], by simp -implicitDefEqProofs (disch := first | omega | (simp -implicitDefEqProofs <;> omega) | (simp -implicitDefEqProofs [*] <;> omega) | fail) [-List.map_take, -List.map_drop, -List.length_flatMap, map_take', map_drop', wrap_in, nth_nat, opt_if, dec_t, dec_f, e6], by simp -implicitDefEqProofs (disch := first | omega | (simp -implicitDefEqProofs <;> omega) | (simp -implicitDefEqProofs [*] <;> omega) | fail) [-List.map_take, -List.map_drop, -List.length_flatMap, map_take', map_drop', wrap_in, nth_nat, opt_if, dec_t, dec_f, e7], by simp -implicitDefEqProofs (disch := first | omega | (simp -implicitDefEqProofs <;> omega) | (simp -implicitDefEqProofs [*] <;> omega) | fail) [-List.map_take, -List.map_drop, -List.length_flatMap, map_take', map_drop', wrap_in, nth_nat, opt_if, dec_t, dec_f, e8], by simp, by simp -implicitDefEqProofs (disch := first | omega | (simp -implicitDefEqProofs <;> omega) | (simp -implicitDefEqProofs [*] <;> omega) | fail) [-List.map_take, -List.map_drop, -List.length_flatMap, map_take', map_drop', wrap_in, nth_nat, opt_if, dec_t, dec_f, efo], by simp -implicitDefEqProofs (disch := first | omega | (simp -implicitDefEqProofs <;> omega) | (simp -implicitDefEqProofs [*] <;> omega) | fail) [-List.map_take, -List.map_drop, -List.length_flatMap, map_take', map_drop', wrap_in, nth_nat, opt_if, dec_t, dec_f, g3, efo], by simp -implicitDefEqProofs (disch := first | omega | (simp -implicitDefEqProofs <;> omega) | (simp -implicitDefEqProofs [*] <;> omega) | fail) [-List.map_take, -List.map_drop, -List.length_flatMap, map_take', map_drop', wrap_in, nth_nat, opt_if, dec_t, dec_f, b3, efo], by simp -implicitDefEqProofs (disch := first | omega | (simp -implicitDefEqProofs <;> omega) | (simp -implicitDefEqProofs [*] <;> omega) | fail) [-List.map_take, -List.map_drop, -List.length_flatMap, map_take', map_drop', wrap_in, nth_nat, opt_if, dec_t, dec_f, g6, efo], by simp -implicitDefEqProofs (disch := first | omega | (simp -implicitDefEqProofs <;> omega) | (simp -implicitDefEqProofs [*] <;> omega) | fail) [-List.map_take, -List.map_drop, -List.length_flatMap, map_take', map_drop', wrap_in, nth_nat, opt_if, dec_t, dec_f, b6, efo], by simp -implicitDefEqProofs (disch := first | omega | (simp -implicitDefEqProofs <;> omega) | (simp -implicitDefEqProofs [*] <;> omega) | fail) [-List.map_take, -List.map_drop, -List.length_flatMap, map_take', map_drop', wrap_in, nth_nat, opt_if, dec_t, dec_f, g8, efo], by rw [hfs, hes]; simp -implicitDefEqProofs (disch := first | omega | (simp -implicitDefEqProofs <;> omega) | (simp -implicitDefEqProofs [*] <;> omega) | fail) [-List.map_take, -List.map_drop, -List.length_flatMap, map_take', map_drop', wrap_in, nth_nat, opt_if, dec_t, dec_f, b8, efo, FileD.d, Ent.d, hlv, cutF], by simp -implicitDefEqProofs (disch := first | omega | (simp -implicitDefEqProofs <;> omega) | (simp -implicitDefEqProofs [*] <;> omega) | fail) [-List.map_take, -List.map_drop, -List.length_flatMap, map_take', map_drop', wrap_in, nth_nat, opt_if, dec_t, dec_f, o80, o81, efo], by simp -implicitDefEqProofs (disch := first | omega | (simp -implicitDefEqProofs <;> omega) | (simp -implicitDefEqProofs [*] <;> omega) | fail) [-List.map_take, -List.map_drop, -List.length_flatMap, map_take', map_drop', wrap_in, nth_nat, opt_if, dec_t, dec_f, o80, o81, efo]⟩ (by omega)
        · have hme : d.files[n].safe + keep[i] = (m : Int) := by omega
          simp -implicitDefEqProofs (disch := first | omega | (simp -implicitDefEqProofs <;> omega) | (simp -implicitDefEqProofs [*] <;> omega) | fail) [-List.map_take, -List.map_drop, -List.length_flatMap, map_take', map_drop', wrap_in, nth_nat, opt_if, dec_t, dec_f, e1, e3, e6, e7, e8, e9, efo, g3, b3, g6, b6, g8, b8, o80, o81, k6, k7, hn, hk0, hkb, intD, hme, hmd]
          exact nxt_of (i + 1) ⟨by omega, by simp -implicitDefEqProofs (disch := first | omega | (simp -implicitDefEqProofs <;> omega) | (simp -implicitDefEqProofs [*] <;> omega) | fail) [-List.map_take, -List.map_drop, -List.length_flatMap, map_take', map_drop', wrap_in, nth_nat, opt_if, dec_t, dec_f, e1], by simp -implicitDefEqProofs (disch := first | omega | (simp -implicitDefEqProofs <;> omega) | (simp -implicitDefEqProofs [*] <;> omega) | fail) [-List.map_take, -List.map_drop, -List.length_flatMap, map_take', map_drop', wrap_in, nth_nat, opt_if, dec_t, dec_f, e3], by simp -implicitDefEqProofs (disch := first | omega | (simp -implicitDefEqProofs <;> omega) | (simp -implicitDefEqProofs [*] <;> omega) | fail) [-List.map_take, -List.map_drop, -List.length_flatMap, map_take', map_drop', wrap_in, nth_nat, opt_if, dec_t, dec_f, e6], by simp -implicitDefEqProofs (disch := first | omega | (simp -implicitDefEqProofs <;> omega) | (simp -implicitDefEqProofs [*] <;> omega) | fail) [-List.map_take, -List.map_drop, -List.length_flatMap, map_take', map_drop', wrap_in, nth_nat, opt_if, dec_t, dec_f, e7], by simp -implicitDefEqProofs (disch := first | omega | (simp -implicitDefEqProofs <;> omega) | (simp -implicitDefEqProofs [*] <;> omega) | fail) [-List.map_take, -List.map_drop, -List.length_flatMap, map_take', map_drop', wrap_in, nth_nat, opt_if, dec_t, dec_f, e8], by simp, by simp -implicitDefEqProofs (disch := first | omega | (simp -implicitDefEqProofs <;> omega) | (simp -implicitDefEqProofs [*] <;> omega) | fail) [-List.map_take, -List.map_drop, -List.length_flatMap, map_take', map_drop', wrap_in, nth_nat, opt_if, dec_t, dec_f, efo], by simp -implicitDefEqProofs (disch := first | omega | (simp -implicitDefEqProofs <;> omega) | (simp -implicitDefEqProofs [*] <;> omega) | fail) [-List.map_take, -List.map_drop, -List.length_flatMap, map_take', map_drop', wrap_in, nth_nat, opt_if, dec_t, dec_f, g3, efo], by simp -implicitDefEqProofs (disch := first | omega | (simp -implicitDefEqProofs <;> omega) | (simp -implicitDefEqProofs [*] <;> omega) | fail) [-List.map_take, -List.map_drop, -List.length_flatMap, map_take', map_drop', wrap_in, nth_nat, opt_if, dec_t, dec_f, b3, efo], by simp -implicitDefEqProofs (disch := first | omega | (simp -implicitDefEqProofs <;> omega) | (simp -implicitDefEqProofs [*] <;> omega) | fail) [-List.map_take, -List.map_drop, -List.length_flatMap, map_take', map_drop', wrap_in, nth_nat, opt_if, dec_t, dec_f, g6, efo], by simp -implicitDefEqProofs (disch := first | omega | (simp -implicitDefEqProofs <;> omega) | (simp -implicitDefEqProofs [*] <;> omega) | fail) [-List.map_take, -List.map_drop, -List.length_flatMap, map_take', map_drop', wrap_in, nth_nat, opt_if, dec_t, dec_f, b6, efo], by simp -implicitDefEqProofs (disch := first | omega | (simp -implicitDefEqProofs <;> omega) | (simp -implicitDefEqProofs [*] <;> omega) | fail) [-List.map_take, -List.map_drop, -List.length_flatMap, map_take', map_drop', wrap_in, nth_nat, opt_if, dec_t, dec_f, g8, efo], by rw [hfs, hes]; simp -implicitDefEqProofs (disch := first | omega | (simp -implicitDefEqProofs <;> omega) | (simp -implicitDefEqProofs [*] <;> omega) | fail) [-List.map_take, -List.map_drop, -List.length_flatMap, map_take', map_drop', wrap_in, nth_nat, opt_if, dec_t, dec_f, b8, efo, FileD.d, Ent.d, hlv, cutF], by simp -implicitDefEqProofs (disch := first | omega | (simp -implicitDefEqProofs <;> omega) | (simp -implicitDefEqProofs [*] <;> omega) | fail) [-List.map_take, -List.map_drop, -List.length_flatMap, map_take', map_drop', wrap_in, nth_nat, opt_if, dec_t, dec_f, o80, o81, efo], by simp -implicitDefEqProofs (disch := first | omega | (simp -implicitDefEqProofs <;> omega) | (simp -implicitDefEqProofs [*] <;> omega) | fail) [-List.map_take, -List.map_drop, -List.length_flatMap, map_take', map_drop', wrap_in, nth_nat, opt_if, dec_t, dec_f, o80, o81, efo]⟩ (by omega)
      · have hme : d.files[n].safe = (m : Int) := by omega
        simp -implicitDefEqProofs (disch := first | omega | (simp -implicitDefEqProofs <;> omega) | (simp -implicitDefEqProofs [*] <;> omega) | fail) [-List.map_take, -List.map_drop, -List.length_flatMap, map_take', map_drop', wrap_in, nth_nat, opt_if, dec_t, dec_f, e1, e3, e6, e7, e8, e9, efo, g3, b3, g6, b6, g8, b8, o80, o81, k6, k7, hn, hk0, intD, hme, hmd]
        exact nxt_of (i + 1) ⟨by omega, by simp -implicitDefEqProofs (disch := first | omega | (simp -implicitDefEqProofs <;> omega) | (simp -implicitDefEqProofs [*] <;> omega) | fail) [-List.map_take, -List.map_drop, -List.length_flatMap, map_take', map_drop', wrap_in, nth_nat, opt_if, dec_t, dec_f, e1], by simp -implicitDefEqProofs (disch := first | omega | (simp -implicitDefEqProofs <;> omega) | (simp -implicitDefEqProofs [*] <;> omega) | fail) [-List.map_take, -List.map_drop, -List.length_flatMap, map_take', map_drop', wrap_in, nth_nat, opt_if, dec_t, dec_f, e3], by simp -implicitDefEqProofs (disch := first | omega | (simp -implicitDefEqProofs <;> omega) | (simp -implicitDefEqProofs [*] <;> omega) | fail) [-List.map_take, -List.map_drop, -List.length_flatMap, map_take', map_drop', wrap_in, nth_nat, opt_if, dec_t, dec_f, e6], by simp -implicitDefEqProofs (disch := first | omega | (simp -implicitDefEqProofs <;> omega) | (simp -implicitDefEqProofs [*] <;> omega) | fail) [-List.map_take, -List.map_drop, -List.length_flatMap, map_take', map_drop', wrap_in, nth_nat, opt_if, dec_t, dec_f, e7], by simp -implicitDefEqProofs (disch := first | omega | (simp -implicitDefEqProofs <;> omega) | (simp -implicitDefEqProofs [*] <;> omega) | fail) [-List.map_take, -List.map_drop, -List.length_flatMap, map_take', map_drop', wrap_in, nth_nat, opt_if, dec_t, dec_f, e8], by simp, by simp -implicitDefEqProofs (disch := first | omega | (simp -implicitDefEqProofs <;> omega) | (simp -implicitDefEqProofs [*] <;> omega) | fail) [-List.map_take, -List.map_drop, -List.length_flatMap, map_take', map_drop', wrap_in, nth_nat, opt_if, dec_t, dec_f, efo], by simp -implicitDefEqProofs (disch := first | omega | (simp -implicitDefEqProofs <;> omega) | (simp -implicitDefEqProofs [*] <;> omega) | fail) [-List.map_take, -List.map_drop, -List.length_flatMap, map_take', map_drop', wrap_in, nth_nat, opt_if, dec_t, dec_f, g3, efo], by simp -implicitDefEqProofs (disch := first | omega | (simp -implicitDefEqProofs <;> omega) | (simp -implicitDefEqProofs [*] <;> omega) | fail) [-List.map_take, -List.map_drop, -List.length_flatMap, map_take', map_drop', wrap_in, nth_nat, opt_if, dec_t, dec_f, b3, efo], by simp -implicitDefEqProofs (disch := first | omega | (simp -implicitDefEqProofs <;> omega) | (simp -implicitDefEqProofs [*] <;> omega) | fail) [-List.map_take, -List.map_drop, -List.length_flatMap, map_take', map_drop', wrap_in, nth_nat, opt_if, dec_t, dec_f, g6, efo], by simp -implicitDefEqProofs (disch := first | omega | (simp -implicitDefEqProofs <;> omega) | (simp -implicitDefEqProofs [*] <;> omega) | fail) [-List.map_take, -List.map_drop, -List.length_flatMap, map_take', map_drop', wrap_in, nth_nat, opt_if, dec_t, dec_f, b6, efo], by simp -implicitDefEqProofs (disch := first | omega | (simp -implicitDefEqProofs <;> omega) | (simp -implicitDefEqProofs [*] <;> omega) | fail) [-List.map_take, -List.map_drop, -List.length_flatMap, map_take', map_drop', wrap_in, nth_nat, opt_if, dec_t, dec_f, g8, efo], by rw [hfs, hes]; simp -implicitDefEqProofs (disch := first | omega | (simp -implicitDefEqProofs <;> omega) | (simp -implicitDefEqProofs [*] <;> omega) | fail) [-List.map_take, -List.map_drop, -List.length_flatMap, map_take', map_drop', wrap_in, nth_nat, opt_if, dec_t, dec_f, b8, efo, FileD.d, Ent.d, hlv, cutF], by simp -implicitDefEqProofs (disch := first | omega | (simp -implicitDefEqProofs <;> omega) | (simp -implicitDefEqProofs [*] <;> omega) | fail) [-List.map_take, -List.map_drop, -List.length_flatMap, map_take', map_drop', wrap_in, nth_nat, opt_if, dec_t, dec_f, o80, o81, efo], by simp -implicitDefEqProofs (disch := first | omega | (simp -implicitDefEqProofs <;> omega) | (simp -implicitDefEqProofs [*] <;> omega) | fail) [-List.map_take, -List.map_drop, -List.length_flatMap, map_take', map_drop', wrap_in, nth_nat, opt_if, dec_t, dec_f, o80, o81, efo]⟩ (by omega)
    · have k7 : ¬ (i : Int) < keep.length := by omega
      rw [List.getElem?_eq_none (by omega)] at hfs
      obtain ⟨m, hm2⟩ := Int.eq_ofNat_of_zero_le w2
      have hlv : leftN d.files[n] none = (m : Int) := hm2
      have hmd : m ≤ d.files[n].data.length := by omega
      have hlv2 : (m : Int) = m := rfl
      simp -implicitDefEqProofs (disch := first | omega | (simp -implicitDefEqProofs <;> omega) | (simp -implicitDefEqProofs [*] <;> omega) | fail) [-List.map_take, -List.map_drop, -List.length_flatMap, map_take', map_drop', wrap_in, nth_nat, opt_if, dec_t, dec_f, e1, e3, e6, e7, e8, e9, efo, g3, b3, g6, b6, g8, b8, o80, o81, k6, k7, hn, hm2, hmd]
      exact nxt_of (i + 1) ⟨by omega, by simp -implicitDefEqProofs (disch := first | omega | (simp -implicitDefEqProofs <;> omega) | (simp -implicitDefEqProofs [*] <;> omega) | fail) [-List.map_take, -List.map_drop, -List.length_flatMap, map_take', map_drop', wrap_in, nth_nat, opt_if, dec_t, dec_f, e1], by simp -implicitDefEqProofs (disch := first | omega | (simp -implicitDefEqProofs <;> omega) | (simp -implicitDefEqProofs [*] <;> omega) | fail) [-List.map_take, -List.map_drop, -List.length_flatMap, map_take', map_drop', wrap_in, nth_nat, opt_if, dec_t, dec_f, e3], by simp -implicitDefEqProofs (disch := first | omega | (simp -implicitDefEqProofs <;> omega) | (simp -implicitDefEqProofs [*] <;> omega) | fail) [-List.map_take, -List.map_drop, -List.length_flatMap, map_take', map_drop', wrap_in, nth_nat, opt_if, dec_t, dec_f, e6], by simp -implicitDefEqProofs (disch := first | omega | (simp -implicitDefEqProofs <;> omega) | (simp -implicitDefEqProofs [*] <;> omega) | fail) [-List.map_take, -List.map_drop, -List.length_flatMap, map_take', map_drop', wrap_in, nth_nat, opt_if, dec_t, dec_f, e7], by simp -implicitDefEqProofs (disch := first | omega | (simp -implicitDefEqProofs <;> omega) | (simp -implicitDefEqProofs [*] <;> omega) | fail) [-List.map_take, -List.map_drop, -List.length_flatMap, map_take', map_drop', wrap_in, nth_nat, opt_if, dec_t, dec_f, e8], by simp, by simp -implicitDefEqProofs (disch := first | omega | (simp -implicitDefEqProofs <;> omega) | (simp -implicitDefEqProofs [*] <;> omega) | fail) [-List.map_take, -List.map_drop, -List.length_flatMap, map_take', map_drop', wrap_in, nth_nat, opt_if, dec_t, dec_f, efo], by simp -implicitDefEqProofs (disch := first | omega | (simp -implicitDefEqProofs <;> omega) | (simp -implicitDefEqProofs [*] <;> omega) | fail) [-List.map_take, -List.map_drop, -List.length_flatMap, map_take', map_drop', wrap_in, nth_nat, opt_if, dec_t, dec_f, g3, efo], by simp -implicitDefEqProofs (disch := first | omega | (simp -implicitDefEqProofs <;> omega) | (simp -implicitDefEqProofs [*] <;> omega) | fail) [-List.map_take, -List.map_drop, -List.length_flatMap, map_take', map_drop', wrap_in, nth_nat, opt_if, dec_t, dec_f, b3, efo], by simp -implicitDefEqProofs (disch := first | omega | (simp -implicitDefEqProofs <;> omega) | (simp -implicitDefEqProofs [*] <;> omega) | fail) [-List.map_take, -List.map_drop, -List.length_flatMap, map_take', map_drop', wrap_in, nth_nat, opt_if, dec_t, dec_f, g6, efo], by simp -implicitDefEqProofs (disch := first | omega | (simp -implicitDefEqProofs <;> omega) | (simp -implicitDefEqProofs [*] <;> omega) | fail) [-List.map_take, -List.map_drop, -List.length_flatMap, map_take', map_drop', wrap_in, nth_nat, opt_if, dec_t, dec_f, b6, efo], by simp -implicitDefEqProofs (disch := first | omega | (simp -implicitDefEqProofs <;> omega) | (simp -implicitDefEqProofs [*] <;> omega) | fail) [-List.map_take, -List.map_drop, -List.length_flatMap, map_take', map_drop', wrap_in, nth_nat, opt_if, dec_t, dec_f, g8, efo], by rw [hfs, hes]; simp -implicitDefEqProofs (disch := first | omega | (simp -implicitDefEqProofs <;> omega) | (simp -implicitDefEqProofs [*] <;> omega) | fail) [-List.map_take, -List.map_drop, -List.length_flatMap, map_take', map_drop', wrap_in, nth_nat, opt_if, dec_t, dec_f, b8, efo, FileD.d, Ent.d, hlv, cutF], by simp -implicitDefEqProofs (disch := first | omega | (simp -implicitDefEqProofs <;> omega) | (simp -implicitDefEqProofs [*] <;> omega) | fail) [-List.map_take, -List.map_drop, -List.length_flatMap, map_take', map_drop', wrap_in, nth_nat, opt_if, dec_t, dec_f, o80, o81, efo], by simp -implicitDefEqProofs (disch := first | omega | (simp -implicitDefEqProofs <;> omega) | (simp -implicitDefEqProofs [*] <;> omega) | fail) [-List.map_take, -List.map_drop, -List.length_flatMap, map_take', map_drop', wrap_in, nth_nat, opt_if, dec_t, dec_f, o80, o81, efo]⟩ (by omega)
  · have k6 : ¬ (i : Int) < l.length := by omega
    have hil : i = l.length := by omega
    subst hil
    simp -implicitDefEqProofs (disch := first | omega | (simp -implicitDefEqProofs <;> omega) | (simp -implicitDefEqProofs [*] <;> omega) | fail) [-List.map_take, -List.map_drop, -List.length_flatMap, map_take', map_drop', wrap_in, nth_nat, opt_if, dec_t, dec_f, e1, e3, e6, e7, e8, e9, efo, g3, b3, g6, b6, g8, b8, o80, o81, k6]
    done

end Go.Proofs.Ytoamihggbaaohaa
