/- Disks: what the program's disk answers, sixth part: what is done to its files. -/
import Derived.Test.YtkbidfohcanijaaGreatDiskX
namespace Go.Proofs.YtkbidfohcanijaaGreat
open BoEng Go
set_option maxRecDepth 100000
attribute [-simp] List.map_take List.map_drop List.length_flatMap
set_option linter.unusedSimpArgs false
set_option linter.unusedVariables false

/-- One file of a box is another. -/
theorem fBox_set {fs : List FileD} {n : Nat} (h : n < fs.length) (f : FileD) : fBox (fs.set n f) = (fBox fs).take (n * 2) ++ .d (.slice (f.data.map byteD)) :: .d (.int .i64 f.safe) :: (fBox fs).drop (n * 2 + 2) := by
  have e : fs = fs.take n ++ fs[n] :: fs.drop (n + 1) := by
    rw [← List.drop_eq_getElem_cons h, List.take_append_drop]
  have hl : (fBox (fs.take n)).length = n * 2 := by
    rw [fBox_len, List.length_take]
    omega
  have h1 : fBox fs = fBox (fs.take n) ++ .d (.slice (fs[n].data.map byteD)) :: .d (.int .i64 fs[n].safe) :: fBox (fs.drop (n + 1)) := by
    conv => lhs; rw [e]
    rw [fBox_app, fBox_cons]
  rw [List.set_eq_take_append_cons_drop, if_pos h, fBox_app, fBox_cons, h1, List.take_left' hl]
  congr 3
  rw [show n * 2 + 2 = (fBox (fs.take n)).length + 2 by omega, List.drop_append]
  simp
theorem fBox_at {fs : List FileD} {n : Nat} (h : n < fs.length) : (fBox fs)[n * 2]? = some (.d (.slice (fs[n].data.map byteD))) ∧ (fBox fs)[n * 2 + 1]? = some (.d (.int .i64 fs[n].safe)) := by
  have h1 := fBox_set h fs[n]
  rw [List.set_getElem_self] at h1
  have hl : ((fBox fs).take (n * 2)).length = n * 2 := by
    have := fBox_len fs
    rw [List.length_take]
    omega
  rw [h1]
  constructor
  · rw [List.getElem?_append_right (by omega), hl]
    simp
  · rw [List.getElem?_append_right (by omega), hl]
    simp

theorem fBox_safe {fs : List FileD} {n : Nat} (h : n < fs.length) (v : Int) : (fBox fs).take (n * 2 + 1) ++ .d (.int .i64 v) :: (fBox fs).drop (n * 2 + 1 + 1) = fBox (fs.set n ⟨fs[n].data, v⟩) := by
  obtain ⟨hq, hb1⟩ := List.getElem?_eq_some_iff.1 (fBox_at h).1
  rw [fBox_set h, List.take_succ_eq_append_getElem hq, hb1, List.append_assoc]
  rfl
theorem fBox_data {fs : List FileD} {n : Nat} (h : n < fs.length) (b : List UInt8) : (fBox fs).take (n * 2) ++ .d (.slice (b.map byteD)) :: (fBox fs).drop (n * 2 + 1) = fBox (fs.set n ⟨b, fs[n].safe⟩) := by
  obtain ⟨hq, hb2⟩ := List.getElem?_eq_some_iff.1 (fBox_at h).2
  rw [fBox_set h, List.drop_eq_getElem_cons hq, hb2]
theorem fBox_setlen (fs : List FileD) (n : Nat) (f : FileD) : (fBox (fs.set n f)).length = fs.length * 2 := by rw [fBox_len, List.length_set]; omega

theorem fBox_ex {fs : List FileD} {n : Nat} (h : fs.length = n) : ∃ X, toD ((fBox fs).take (n * 2)) = some X ∧ chunk 2 true n X = fs.map FileD.d := ⟨_, fBox_thaw h, fBox_chunk h⟩

theorem diskSync (k : Dk) (hk : okK k) (name : List UInt8) : Holds Tryz.prog 52 [.d k.d, .d (.str name)] (.tup [.d (syncS k name).1.d, .d (.int .i64 (syncS k name).2)]) (fun _ => false) := by
  refine Holds.by (by kernel_rfl) Tryz.func52 (by kernel_rfl) rfl [40008, 40010] (by simp) (by kernel_rfl) (by kernel_rfl) rfl ?_
  conv in ccs _ => cbv
  obtain ⟨hk1, hk2⟩ := hk
  have q := fun gl => diskOwnB (fo := FO + 1000) (gl := gl) k hk1 (by omega)
  have hrg := good_right k
  have hok := ok_good ⟨hk1, hk2⟩
  unfold syncS
  generalize goodK k = d at *
  have hll := right_lens hrg
  have hfb : (fBox d.files).length = d.files.length * 2 := by rw [fBox_len]; omega
  simp (config := sc) (disch := first | exact dd | fail) [std, Dk.d]
  refine o_cbE (FO + 1000) rfl rfl (q _) rfl (by simp (config := sc) (disch := first | exact dd | fail) [std]) ?_
  rintro ⟨nf, gf⟩ ⟨h1, h2, h3⟩
  simp only at h1 h2 h3
  have hk1 : ∀ k, k < 1000 → (nf = FO + k) = False := fun k hk => by simp; omega
  have hk2 : ∀ k, k < 1000 → (FO + k = nf) = False := fun k hk => by simp; omega
  have q2 := fun g hg gl => diskFindB (fo := FO + 5000) (gl := gl) (FO + 2) g nf gf (by omega) (by omega) (by omega) hg h3 d hok.1 hrg name
  cases hx : findK d.now name with
  | none =>
    rw [hx] at q2
    simp (config := sc) (disch := first | exact dd | fail) [std, dkB, fU, hk1, hk2, h3]
    refine o_cb (FO + 5000) rfl rfl (q2 1 (by omega) _) rfl (by simp (config := sc) (disch := first | exact dd | fail) [std, dkB, fU, hk1, hk2, h3]) ?_
    simp (config := sc) (disch := first | exact dd | fail) [std, dkB, fU, fBox_thaw, fBox_chunk, hfb, hk1, hk2]
    done
  | some x =>
    rw [hx] at q2
    have hrx := find_rng hrg hx
    obtain ⟨n, rfl⟩ := Int.eq_ofNat_of_zero_le hrx.1
    have hnl : n < d.files.length := by omega
    have hfa : fileAt d.files (n : Int) = d.files[n] := by simp [fileAt, List.getD_eq_getElem?_getD, hnl]
    have hdl := hok.1.1.2 _ (List.getElem_mem hnl)
    obtain ⟨ha1, ha2⟩ := fBox_at hnl
    obtain ⟨_, hb1⟩ := List.getElem?_eq_some_iff.1 ha1
    obtain ⟨_, hb2⟩ := List.getElem?_eq_some_iff.1 ha2
    simp only [hfa, Int.toNat_natCast] at q2 ⊢
    simp (config := sc) (disch := first | exact dd | fail) [std, dkB, fU, hk1, hk2, h3]
    refine o_cb (FO + 5000) rfl rfl (q2 1 (by omega) _) rfl (by simp (config := sc) (disch := first | exact dd | fail) [std, dkB, fU, hk1, hk2, h3]) ?_
    have hlf : (d.files.set n ⟨d.files[n].data, (d.files[n].data.length : Int)⟩).length = d.files.length := by simp
    simp (config := sc) (disch := first | exact dd | fail) [std, dkB, fU, hfb, hk1, hk2, hb1, hb2, fBox_safe hnl, fBox_setlen, fBox_thaw hlf, setFile, Dk.d]
    rw [← List.map_set, fBox_chunk hlf]

theorem fBox_both {fs : List FileD} {n : Nat} (h : n < fs.length) (b : List UInt8) (v : Int) : fBox ((fs.set n ⟨b, fs[n].safe⟩).set n ⟨b, v⟩) = fBox (fs.set n ⟨b, v⟩) := by rw [List.set_set]
theorem fBox_safe2 {fs : List FileD} {n : Nat} (h : n < fs.length) (f : FileD) (v : Int) : (fBox (fs.set n f)).take (n * 2 + 1) ++ .d (.int .i64 v) :: (fBox (fs.set n f)).drop (n * 2 + 1 + 1) = fBox (fs.set n ⟨f.data, v⟩) := by
  have := fBox_safe (fs := fs.set n f) (n := n) (by simpa using h) v
  rw [this, List.set_set]
  simp
theorem diskCut (k : Dk) (hk : okK k) (name : List UInt8) (m : Int) : Holds Tryz.prog 51 [.d k.d, .d (.str name), .d (.int .i64 m)] (.tup [.d (cutS k name m).1.d, .d (.int .i64 (cutS k name m).2)]) (fun _ => false) := by
  refine Holds.by (by kernel_rfl) Tryz.func51 (by kernel_rfl) rfl [40010, 40012] (by simp) (by kernel_rfl) (by kernel_rfl) rfl ?_
  conv in ccs _ => cbv
  obtain ⟨hk1, hk2⟩ := hk
  have q := fun gl => diskOwnB (fo := FO + 1000) (gl := gl) k hk1 (by omega)
  have hrg := good_right k
  have hok := ok_good ⟨hk1, hk2⟩
  unfold cutS
  generalize goodK k = d at *
  have hll := right_lens hrg
  have hfb : (fBox d.files).length = d.files.length * 2 := by rw [fBox_len]; omega
  simp (config := sc) (disch := first | exact dd | fail) [std, Dk.d]
  refine o_cbE (FO + 1000) rfl rfl (q _) rfl (by simp (config := sc) (disch := first | exact dd | fail) [std]) ?_
  rintro ⟨nf, gf⟩ ⟨h1, h2, h3⟩
  simp only at h1 h2 h3
  have hk1 : ∀ k, k < 1000 → (nf = FO + k) = False := fun k hk => by simp; omega
  have hk2 : ∀ k, k < 1000 → (FO + k = nf) = False := fun k hk => by simp; omega
  have q2 := fun g hg gl => diskFindB (fo := FO + 5000) (gl := gl) (FO + 3) g nf gf (by omega) (by omega) (by omega) hg h3 d hok.1 hrg name
  cases hx : findK d.now name with
  | none =>
    rw [hx] at q2
    simp (config := sc) (disch := first | exact dd | fail) [std, dkB, fU, hk1, hk2, h3]
    refine o_cb (FO + 5000) rfl rfl (q2 1 (by omega) _) rfl (by simp (config := sc) (disch := first | exact dd | fail) [std, dkB, fU, hk1, hk2, h3]) ?_
    simp (config := sc) (disch := first | exact dd | fail) [std, dkB, fU, fBox_thaw, fBox_chunk, hfb, hk1, hk2]
  | some x =>
    rw [hx] at q2
    have hrx := find_rng hrg hx
    obtain ⟨n, rfl⟩ := Int.eq_ofNat_of_zero_le hrx.1
    have hnl : n < d.files.length := by omega
    have hfa : fileAt d.files (n : Int) = d.files[n] := by simp [fileAt, List.getD_eq_getElem?_getD, hnl]
    have hdl := hok.1.1.2 _ (List.getElem_mem hnl)
    obtain ⟨ha1, ha2⟩ := fBox_at hnl
    obtain ⟨_, hb1⟩ := List.getElem?_eq_some_iff.1 ha1
    obtain ⟨_, hb2⟩ := List.getElem?_eq_some_iff.1 ha2
    simp only [hfa, Int.toNat_natCast] at q2 ⊢
    by_cases hm : m < 0
    · simp (config := sc) (disch := first | exact dd | fail) [std, dkB, fU, hk1, hk2, h3, hm]
      refine o_cb (FO + 5000) rfl rfl (q2 1 (by omega) _) rfl (by simp (config := sc) (disch := first | exact dd | fail) [std, dkB, fU, hk1, hk2, h3]) ?_
      simp (config := sc) (disch := first | exact dd | fail) [std, dkB, fU, fBox_thaw, fBox_chunk, hfb, hk1, hk2, hm]
    · by_cases hm2 : (d.files[n].data.length : Int) < m
      · simp (config := sc) (disch := first | exact dd | fail) [std, dkB, fU, hk1, hk2, h3, hm, hm2]
        refine o_cb (FO + 5000) rfl rfl (q2 1 (by omega) _) rfl (by simp (config := sc) (disch := first | exact dd | fail) [std, dkB, fU, hk1, hk2, h3]) ?_
        simp (config := sc) (disch := first | exact dd | fail) [std, dkB, fU, fBox_thaw, fBox_chunk, hfb, hk1, hk2, hm, hm2, hb1]
      · obtain ⟨j, rfl⟩ := Int.eq_ofNat_of_zero_le (show 0 ≤ m by omega)
        have hlf : (d.files.set n ⟨d.files[n].data.take j, (j : Int)⟩).length = d.files.length := by simp
        simp (config := sc) (disch := first | exact dd | fail) [std, dkB, fU, hk1, hk2, h3, hm, hm2]
        refine o_cb (FO + 5000) rfl rfl (q2 1 (by omega) _) rfl (by simp (config := sc) (disch := first | exact dd | fail) [std, dkB, fU, hk1, hk2, h3]) ?_
        simp (config := sc) (disch := first | exact dd | fail) [std, dkB, fU, hfb, hk1, hk2, hm, hm2, hb1, hb2, fBox_data hnl, fBox_safe2 hnl, fBox_setlen, fBox_thaw hlf, setFile, Dk.d]
        rw [← List.map_set, fBox_chunk hlf]

theorem fBox_snoc (fs : List FileD) (f : FileD) : fBox fs ++ [.d (.slice (f.data.map byteD)), .d (.int .i64 f.safe)] = fBox (fs ++ [f]) := by rw [fBox_app, fBox_cons, fBox_nil]
theorem diskAppend (k : Dk) (hk : okK k) (name b : List UInt8) (hn : name.length ≤ 9223372036854775807) (hb : b.length ≤ 1000000) : Holds Tryz.prog 104 [.d k.d, .d (.str name), .d (.slice (b.map byteD))] (.tup [.d (appendS k name b).1.d, .d (.int .i64 (appendS k name b).2)]) (fun _ => false) := by
  refine Holds.by (by kernel_rfl) Tryz.func104 (by kernel_rfl) rfl [40010, 40012, 20054, 10043, 71] (by simp) (by kernel_rfl) (by kernel_rfl) rfl ?_
  conv in ccs _ => cbv
  obtain ⟨hk1, hk2⟩ := hk
  have q := fun gl => diskOwnB (fo := FO + 1000) (gl := gl) k hk1 (by omega)
  have hrg := good_right k
  have hok := ok_good ⟨hk1, hk2⟩
  unfold appendS
  generalize goodK k = d at *
  have hll := right_lens hrg
  have hfb : (fBox d.files).length = d.files.length * 2 := by rw [fBox_len]; omega
  have qf := diskFair name hn
  simp (config := sc) (disch := first | exact dd | fail) [std, Dk.d]
  refine o_cbE (FO + 1000) rfl rfl (q _) rfl (by simp (config := sc) (disch := first | exact dd | fail) [std]) ?_
  rintro ⟨nf, gf⟩ ⟨h1, h2, h3⟩
  simp only at h1 h2 h3
  have hk1 : ∀ k, k < 1000 → (nf = FO + k) = False := fun k hk => by simp; omega
  have hk2 : ∀ k, k < 1000 → (FO + k = nf) = False := fun k hk => by simp; omega
  have q2 := fun g hg gl => diskFindB (fo := FO + 5000) (gl := gl) (FO + 3) g nf gf (by omega) (by omega) (by omega) hg h3 d hok.1 hrg name
  cases hf : fairN name with
  | false =>
    rw [hf] at qf
    simp (config := sc) (disch := first | exact dd | fail) [std, dkB, fU, hk1, hk2, h3]
    refine o_cb (FO + 5000) rfl rfl (q2 1 (by omega) _) rfl (by simp (config := sc) (disch := first | exact dd | fail) [std, dkB, fU, hk1, hk2, h3]) ?_
    simp (config := sc) (disch := first | exact dd | fail) [std]
    refine o_call rfl rfl qf rfl rfl ?_
    simp (config := sc) (disch := first | exact dd | fail) [std, dkB, fU, fBox_thaw, fBox_chunk, hfb, hk1, hk2]
  | true =>
  rw [hf] at qf
  cases hx : findK d.now name with
  | none =>
    rw [hx] at q2
    by_cases h20 : (d.files.length : Int) = 20
    · have hc : d.files.length ≥ 20 ∨ b.length > 20000 := by omega
      simp (config := sc) (disch := first | exact dd | fail) [std, dkB, fU, hk1, hk2, h3]
      refine o_cb (FO + 5000) rfl rfl (q2 1 (by omega) _) rfl (by simp (config := sc) (disch := first | exact dd | fail) [std, dkB, fU, hk1, hk2, h3]) ?_
      simp (config := sc) (disch := first | exact dd | fail) [std]
      refine o_call rfl rfl qf rfl rfl ?_
      simp (config := sc) (disch := first | exact dd | fail) [std, dkB, fU, fBox_thaw, fBox_chunk, hfb, hk1, hk2, h20, hc]
    · by_cases hbl : (20000 : Int) < b.length
      · have hc : d.files.length ≥ 20 ∨ b.length > 20000 := by omega
        simp (config := sc) (disch := first | exact dd | fail) [std, dkB, fU, hk1, hk2, h3]
        refine o_cb (FO + 5000) rfl rfl (q2 1 (by omega) _) rfl (by simp (config := sc) (disch := first | exact dd | fail) [std, dkB, fU, hk1, hk2, h3]) ?_
        simp (config := sc) (disch := first | exact dd | fail) [std]
        refine o_call rfl rfl qf rfl rfl ?_
        simp (config := sc) (disch := first | exact dd | fail) [std, dkB, fU, fBox_thaw, fBox_chunk, hfb, hk1, hk2, h20, hbl, hc]
      · have hc : ¬ (d.files.length ≥ 20 ∨ b.length > 20000) := by omega
        have qp := diskPut d.now name d.files.length (by omega)
        have hin := right_in hrg
        have hpl := put_len d.now name d.files.length
        have qo := diskOrdered ⟨d.files ++ [⟨b, 0⟩], putK d.now name d.files.length, d.kept⟩ ⟨⟨by simp; omega, fun f hf => by
            rcases List.mem_append.1 hf with h | h
            · exact hok.1.1.2 f h
            · simp at h; subst h; simp; omega⟩, sized_put hok.1.2.1 hn _ (by omega), hok.1.2.2⟩
          ⟨inK_put (fun e he => by have := hin.1 e he; simp; omega) (by omega) (by simp; omega), fun e he => by have := hin.2 e he; simp; omega⟩ (by simp; omega)
        simp (config := sc) (disch := first | exact dd | fail) [std, dkB, fU, hk1, hk2, h3]
        refine o_cb (FO + 5000) rfl rfl (q2 1 (by omega) _) rfl (by simp (config := sc) (disch := first | exact dd | fail) [std, dkB, fU, hk1, hk2, h3]) ?_
        simp (config := sc) (disch := first | exact dd | fail) [std]
        refine o_call rfl rfl qf rfl rfl ?_
        simp (config := sc) (disch := first | exact dd | fail) [std, dkB, fU, hfb, hk1, hk2, h20, hbl, hc]
        refine o_call rfl rfl qp rfl rfl ?_
        have hsn := fBox_snoc d.files (⟨b, 0⟩ : FileD)
        have hlf : (d.files ++ [(⟨b, 0⟩ : FileD)]).length = d.files.length + 1 := by simp
        have hfl2 : flat [DV.agg [DV.slice (b.map byteD), DV.int .i64 0]] = [DV.slice (b.map byteD), DV.int .i64 0] := rfl
        have hfl3 : (fBox (d.files ++ [(⟨b, 0⟩ : FileD)])).length = (d.files.length + 1) * 2 := by rw [fBox_len, hlf]; omega
        obtain ⟨X, hX1, hX2⟩ := fBox_ex hlf
        simp (config := sc) (disch := first | exact dd | fail) [std, dkB, fU, hfb, hk1, hk2, h20, hbl, hc, hfl2, hsn, hfl3, hX1, hX2]
        have hqa : (⟨d.files ++ [⟨b, 0⟩], putK d.now name d.files.length, d.kept⟩ : Dk).d = .agg [.slice (d.files.map FileD.d ++ [FileD.d ⟨b, 0⟩]), .slice ((putK d.now name d.files.length).map Ent.d), .slice (d.kept.map Ent.d)] := by simp [Dk.d]
        rw [hqa] at qo
        refine o_call rfl rfl qo rfl rfl ?_
        simp (config := sc) (disch := first | exact dd | fail) [std, Dk.d]
  | some x =>
    rw [hx] at q2
    have hrx := find_rng hrg hx
    obtain ⟨n, rfl⟩ := Int.eq_ofNat_of_zero_le hrx.1
    have hnl : n < d.files.length := by omega
    have hfa : fileAt d.files (n : Int) = d.files[n] := by simp [fileAt, List.getD_eq_getElem?_getD, hnl]
    have hdl := hok.1.1.2 _ (List.getElem_mem hnl)
    obtain ⟨ha1, ha2⟩ := fBox_at hnl
    obtain ⟨_, hb1⟩ := List.getElem?_eq_some_iff.1 ha1
    obtain ⟨_, hb2⟩ := List.getElem?_eq_some_iff.1 ha2
    simp only [hfa, Int.toNat_natCast] at q2 ⊢
    simp (config := sc) (disch := first | exact dd | fail) [std, dkB, fU, hk1, hk2, h3]
    refine o_cb (FO + 5000) rfl rfl (q2 1 (by omega) _) rfl (by simp (config := sc) (disch := first | exact dd | fail) [std, dkB, fU, hk1, hk2, h3]) ?_
    simp (config := sc) (disch := first | exact dd | fail) [std]
    refine o_call rfl rfl qf rfl rfl ?_
    by_cases hbl : (20000 : Int) < b.length
    · have hc : d.files[n].data.length + b.length > 20000 := by omega
      simp (config := sc) (disch := first | exact dd | fail) [std, dkB, fU, fBox_thaw, fBox_chunk, hfb, hk1, hk2, hbl, hc]
    · by_cases hc2 : (20000 : Int) < d.files[n].data.length + b.length
      · have hc : d.files[n].data.length + b.length > 20000 := by omega
        simp (config := sc) (disch := first | exact dd | fail) [std, dkB, fU, fBox_thaw, fBox_chunk, hfb, hk1, hk2, hbl, hc, hb1, hc2]
      · have hc : ¬ d.files[n].data.length + b.length > 20000 := by omega
        have hab : d.files[n].data.map byteD ++ b.map byteD = (d.files[n].data ++ b).map byteD := List.map_append.symm
        have hlf : (d.files.set n ⟨d.files[n].data ++ b, d.files[n].safe⟩).length = d.files.length := by simp
        simp (config := sc) (disch := first | exact dd | fail) [std, -List.map_append, hab, dkB, fU, hfb, hk1, hk2, hbl, hc, hb1, hc2, fBox_data hnl, fBox_setlen, fBox_thaw hlf, setFile, Dk.d]
        rw [← List.map_set, fBox_chunk hlf]

end Go.Proofs.YtkbidfohcanijaaGreat
