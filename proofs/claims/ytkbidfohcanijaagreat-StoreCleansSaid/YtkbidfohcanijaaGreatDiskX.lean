/- Disks: what the program's disk answers, fifth part: what is told of a disk, and what is done to its names. -/
import Derived.Test.YtkbidfohcanijaaGreatDiskW
namespace Go.Proofs.YtkbidfohcanijaaGreat
open BoEng Go
set_option maxRecDepth 100000
attribute [-simp] List.map_take List.map_drop List.length_flatMap
set_option linter.unusedSimpArgs false
set_option linter.unusedVariables false

/-- Disks of a size that may be gone through. -/
def okK (k : Dk) : Prop := sizedK k ∧ k.now.length + k.kept.length ≤ 90000
theorem ok0 : okK dk0 := by simp [okK, sizedK, sizedF, sizedE, dk0]
theorem ok_good {k : Dk} (h : okK k) : okK (goodK k) := by
  unfold goodK
  split
  · exact h
  · exact ok0
theorem sizedE_sub {l m : List Ent} (h : sizedE l) (hs : ∀ e ∈ m, e ∈ l) (hl : m.length ≤ l.length) : sizedE m := ⟨Nat.le_trans hl h.1, fun e he => h.2 e (hs e he)⟩
theorem drop_len (l : List Ent) (n : List UInt8) : (dropK l n).length ≤ l.length := List.length_filter_le _ _
theorem drop_mem {l : List Ent} {n : List UInt8} : ∀ e ∈ dropK l n, e ∈ l := fun e he => (List.mem_filter.1 he).1
theorem sized_drop {l : List Ent} (h : sizedE l) (n : List UInt8) : sizedE (dropK l n) := sizedE_sub h drop_mem (drop_len l n)
theorem put_len (l : List Ent) (n : List UInt8) (x : Int) : (putK l n x).length = l.length + 1 := by
  have := atK_le l n
  simp [putK]
  omega
theorem put_mem {l : List Ent} {n : List UInt8} {x : Int} {e : Ent} (he : e ∈ putK l n x) : e ∈ l ∨ e = ⟨n, x⟩ := by
  unfold putK at he
  rcases List.mem_append.1 he with h | h
  · exact .inl (List.mem_of_mem_take h)
  · rcases List.mem_cons.1 h with h | h
    · exact .inr h
    · exact .inl (List.mem_of_mem_drop h)
theorem sized_put {l : List Ent} (h : sizedE l) {n : List UInt8} (hn : n.length ≤ 9223372036854775807) (x : Int) (hl : l.length < 100000) : sizedE (putK l n x) := by
  refine ⟨by rw [put_len]; omega, fun e he => ?_⟩
  rcases put_mem he with h1 | rfl
  · exact h.2 e h1
  · exact hn
theorem inK_drop {l : List Ent} {m : Nat} (h : inK l m) (n : List UInt8) : inK (dropK l n) m := fun e he => h e (drop_mem e he)
theorem inK_put {l : List Ent} {m : Nat} (h : inK l m) {n : List UInt8} {x : Int} (h0 : 0 ≤ x) (h1 : x < m) : inK (putK l n x) m := by
  intro e he
  rcases put_mem he with h2 | rfl
  · exact h e h2
  · exact ⟨h0, h1⟩

theorem nodup_le : ∀ (n : Nat) (w : List Int), w.Nodup → (∀ x ∈ w, 0 ≤ x ∧ x < n) → w.length ≤ n
  | 0, w, _, h => by
    cases w with
    | nil => simp
    | cons a w => have := h a (by simp); omega
  | n + 1, w, hn, h => by
    by_cases hm : (n : Int) ∈ w
    · have h1 := nodup_le n (w.erase (n : Int)) (hn.erase _) (fun x hx => by
        have h2 := (hn.mem_erase_iff).1 hx
        have h3 := h x h2.2
        have h4 := h2.1
        omega)
      rw [List.length_erase_of_mem hm] at h1
      omega
    · have h1 := nodup_le n w hn (fun x hx => by
        have h3 := h x hx
        have h4 : x ≠ n := fun e => hm (e ▸ hx)
        omega)
      omega
theorem named_nodup {l : List Ent} {m : Int} (h : namedS l m = true) : (l.map Ent.file).Nodup := by
  unfold List.Nodup
  rw [List.pairwise_iff_getElem]
  intro i j hi hj hij e
  simp only [List.length_map] at hi hj
  simp only [List.getElem_map] at e
  have h1 := named_all.1 h j hj
  rw [nmAt_get hj] at h1
  simp only [Bool.and_eq_true, Bool.not_eq_true'] at h1
  have h2 := h1.1.2
  have h3 : hasF (l.take j) l[j].file = true := hasF_iff.2 ⟨l[i], by rw [List.mem_take_iff_getElem]; exact ⟨i, by omega, rfl⟩, e⟩
  rw [h3] at h2
  cases h2
theorem named_len {l : List Ent} {m : Nat} (h : namedS l m = true) : l.length ≤ m := by
  have := nodup_le m (l.map Ent.file) (named_nodup h) (fun x hx => by
    obtain ⟨e, he, rfl⟩ := List.mem_map.1 hx
    exact named_in h e he)
  simpa using this
theorem named_fair {l : List Ent} {m : Int} (h : namedS l m = true) : ∀ e ∈ l, fairN e.name = true := by
  intro e he
  obtain ⟨i, hi, rfl⟩ := List.mem_iff_getElem.1 he
  have h1 := named_all.1 h i hi
  rw [nmAt_get hi] at h1
  simp only [Bool.and_eq_true] at h1
  exact h1.1.1.1
theorem right_lens {k : Dk} (h : rightK k = true) : k.files.length ≤ 20 ∧ k.now.length ≤ 20 ∧ k.kept.length ≤ 20 := by
  obtain ⟨h1, h2, h3, h4, h5⟩ := rightK_iff.1 h
  have := named_len h2
  have := named_len h3
  omega
theorem fair_len {n : List UInt8} (h : fairN n = true) : 1 ≤ n.length ∧ n.length ≤ 16 := by simpa [fairN] using h
theorem ok_right {k : Dk} (h : rightK k = true) : okK k := by
  have hl := right_lens h
  obtain ⟨h1, h2, h3, h4, h5⟩ := rightK_iff.1 h
  refine ⟨⟨⟨by omega, fun f hf => ?_⟩, ⟨by omega, fun e he => ?_⟩, ⟨by omega, fun e he => ?_⟩⟩, by omega⟩
  · have := List.all_eq_true.1 h4 f hf
    simp only [fileOk, decide_eq_true_eq] at this
    omega
  · have := fair_len (named_fair h2 e he); omega
  · have := fair_len (named_fair h3 e he); omega

theorem diskGet (k : Dk) (hk : okK k) (name : List UInt8) : Holds Tryz.prog 36 [.d k.d, .d (.str name)] (.tup [.d (.slice ((getS k name).1.map byteD)), .d (.int .i64 (getS k name).2)]) (fun _ => false) := by
  refine Holds.by (by kernel_rfl) Tryz.func36 (by kernel_rfl) rfl [40010] (by simp) (by kernel_rfl) (by kernel_rfl) rfl ?_
  conv in ccs _ => cbv
  obtain ⟨hk1, hk2⟩ := hk
  have q := diskOwn k hk1 (by omega)
  have hok := ok_good ⟨hk1, hk2⟩
  have hrg := good_right k
  unfold getS
  generalize goodK k = d at *
  have q2 := fun g hg gl => diskFindD (fo := FO + 1000) (gl := gl) (FO + 2) g (by omega) hg d hok.1 hrg name
  have hdd : d.d = .agg [.slice (d.files.map FileD.d), .slice (d.now.map Ent.d), .slice (d.kept.map Ent.d)] := rfl
  cases hx : findK d.now name with
  | none =>
    rw [hx] at q2
    simp (config := sc) (disch := first | exact dd | fail) [std, Dk.d]
    refine o_call rfl rfl q rfl rfl ?_
    simp (config := sc) (disch := first | exact dd | fail) [std, hdd]
    refine o_cb (FO + 1000) rfl rfl (q2 1 (by omega) _) rfl (by simp (config := sc) (disch := first | exact dd | fail) [std]) ?_
    simp (config := sc) (disch := first | exact dd | fail) [std]
  | some x =>
    rw [hx] at q2
    simp (config := sc) (disch := first | exact dd | fail) [std, Dk.d]
    refine o_call rfl rfl q rfl rfl ?_
    simp (config := sc) (disch := first | exact dd | fail) [std, hdd]
    refine o_cb (FO + 1000) rfl rfl (q2 1 (by omega) _) rfl (by simp (config := sc) (disch := first | exact dd | fail) [std]) ?_
    simp (config := sc) (disch := first | exact dd | fail) [std]

theorem diskSyncDir (k : Dk) (hk : okK k) : Holds Tryz.prog 54 [.d k.d] (.d (syncDirS k).d) (fun _ => false) := by
  refine Holds.by (by kernel_rfl) Tryz.func54 (by kernel_rfl) rfl [] (by simp) (by kernel_rfl) (by kernel_rfl) rfl ?_
  conv in ccs _ => cbv
  obtain ⟨hk1, hk2⟩ := hk
  have q := diskOwn k hk1 (by omega)
  have hok := ok_good ⟨hk1, hk2⟩
  have hrg := good_right k
  unfold syncDirS
  generalize goodK k = d at *
  have hdd : d.d = .agg [.slice (d.files.map FileD.d), .slice (d.now.map Ent.d), .slice (d.kept.map Ent.d)] := rfl
  have hin := right_in hrg
  have hlen := (right_lens hrg).2.1
  have q2 := diskOrdered ⟨d.files, d.now, d.now⟩ ⟨hok.1.1, hok.1.2.1, hok.1.2.1⟩ ⟨hin.1, hin.1⟩ (by simp; omega)
  simp (config := sc) (disch := first | exact dd | fail) [std, Dk.d]
  refine o_call rfl rfl q rfl rfl ?_
  simp (config := sc) (disch := first | exact dd | fail) [std, hdd]
  refine o_call rfl rfl q2 rfl rfl ?_
  simp (config := sc) (disch := first | exact dd | fail) [std, Dk.d]

theorem found_none {l : List Ent} (hs : Srt l) {name : List UInt8} : (findK l name = none ↔ foundK l name = false) ∧ ∀ x, findK l name = some x → foundK l name = true ∧ atK l name < l.length ∧ x = (l.getD (atK l name) default).file := by
  obtain ⟨h1, h2, h3⟩ := found_iff hs (name := name)
  cases hf : foundK l name with
  | true =>
    rw [h2 hf]
    refine ⟨by simp, fun x hx => ⟨rfl, ?_, (Option.some.inj hx).symm⟩⟩
    simp only [foundK, Bool.and_eq_true, decide_eq_true_eq] at hf
    exact hf.1
  | false =>
    rw [h3 hf]
    exact ⟨by simp, fun x hx => by cases hx⟩
theorem diskRemove (k : Dk) (hk : okK k) (name : List UInt8) : Holds Tryz.prog 53 [.d k.d, .d (.str name)] (.tup [.d (removeS k name).1.d, .d (.int .i64 (removeS k name).2)]) (fun _ => false) := by
  refine Holds.by (by kernel_rfl) Tryz.func53 (by kernel_rfl) rfl [] (by simp) (by kernel_rfl) (by kernel_rfl) rfl ?_
  conv in ccs _ => cbv
  obtain ⟨hk1, hk2⟩ := hk
  have q := diskOwn k hk1 (by omega)
  have hrg := good_right k
  have hok := ok_good ⟨hk1, hk2⟩
  unfold removeS
  generalize goodK k = d at *
  have hll := right_lens hrg
  have hdd : d.d = .agg [.slice (d.files.map FileD.d), .slice (d.now.map Ent.d), .slice (d.kept.map Ent.d)] := rfl
  have hin := right_in hrg
  have q1 := diskAt d.now name (by omega)
  have q2 := diskDrop d.now name (by omega)
  obtain ⟨f1, f2⟩ := found_none (named_srt (rightK_iff.1 hrg).2.1) (name := name)
  have hdl := drop_len d.now name
  have q3 := diskOrdered ⟨d.files, dropK d.now name, d.kept⟩ ⟨hok.1.1, sized_drop hok.1.2.1 name, hok.1.2.2⟩ ⟨inK_drop hin.1 name, hin.2⟩ (by simp; omega)
  cases hx : findK d.now name with
  | none =>
    rw [f1.1 hx] at q1
    simp (config := sc) (disch := first | exact dd | fail) [std, Dk.d]
    refine o_call rfl rfl q rfl rfl ?_
    simp (config := sc) (disch := first | exact dd | fail) [std, hdd]
    refine o_call rfl rfl q1 rfl rfl ?_
    simp (config := sc) (disch := first | exact dd | fail) [std]
  | some x =>
    rw [(f2 x hx).1] at q1
    simp (config := sc) (disch := first | exact dd | fail) [std, Dk.d]
    refine o_call rfl rfl q rfl rfl ?_
    simp (config := sc) (disch := first | exact dd | fail) [std, hdd]
    refine o_call rfl rfl q1 rfl rfl ?_
    simp (config := sc) (disch := first | exact dd | fail) [std]
    refine o_call rfl rfl q2 rfl rfl ?_
    simp (config := sc) (disch := first | exact dd | fail) [std]
    refine o_call rfl rfl q3 rfl rfl ?_
    simp (config := sc) (disch := first | exact dd | fail) [std, Dk.d]

theorem diskRename (k : Dk) (hk : okK k) (name to : List UInt8) (hto : to.length ≤ 9223372036854775807) : Holds Tryz.prog 105 [.d k.d, .d (.str name), .d (.str to)] (.tup [.d (renameS k name to).1.d, .d (.int .i64 (renameS k name to).2)]) (fun _ => false) := by
  refine Holds.by (by kernel_rfl) Tryz.func105 (by kernel_rfl) rfl [] (by simp) (by kernel_rfl) (by kernel_rfl) rfl ?_
  conv in ccs _ => cbv
  obtain ⟨hk1, hk2⟩ := hk
  have q := diskOwn k hk1 (by omega)
  have hrg := good_right k
  have hok := ok_good ⟨hk1, hk2⟩
  unfold renameS
  generalize goodK k = d at *
  have hll := right_lens hrg
  have hdd : d.d = .agg [.slice (d.files.map FileD.d), .slice (d.now.map Ent.d), .slice (d.kept.map Ent.d)] := rfl
  have hin := right_in hrg
  have q1 := diskAt d.now name (by omega)
  have q2 := diskDrop d.now name (by omega)
  have hdl := drop_len d.now name
  have hdl2 := drop_len (dropK d.now name) to
  have q3 := diskDrop (dropK d.now name) to (by omega)
  have qf := diskFair to hto
  obtain ⟨f1, f2⟩ := found_none (named_srt (rightK_iff.1 hrg).2.1) (name := name)
  cases hx : findK d.now name with
  | none =>
    rw [f1.1 hx] at q1
    simp (config := sc) (disch := first | exact dd | fail) [std, Dk.d]
    refine o_call rfl rfl q rfl rfl ?_
    simp (config := sc) (disch := first | exact dd | fail) [std, hdd]
    refine o_call rfl rfl q1 rfl rfl ?_
    simp (config := sc) (disch := first | exact dd | fail) [std]
  | some x =>
    obtain ⟨g1, g2, g3⟩ := f2 x hx
    rw [g1] at q1
    have hrx := find_rng hrg hx
    have q4 := diskPut (dropK (dropK d.now name) to) to x (by omega)
    rw [List.getD_eq_getElem?_getD, List.getElem?_eq_getElem g2, Option.getD_some] at g3
    have hpl := put_len (dropK (dropK d.now name) to) to x
    cases hf : fairN to with
    | false =>
      rw [hf] at qf
      simp (config := sc) (disch := first | exact dd | fail) [std, Dk.d]
      refine o_call rfl rfl q rfl rfl ?_
      simp (config := sc) (disch := first | exact dd | fail) [std, hdd]
      refine o_call rfl rfl q1 rfl rfl ?_
      simp (config := sc) (disch := first | exact dd | fail) [std]
      refine o_call rfl rfl qf rfl rfl ?_
      simp (config := sc) (disch := first | exact dd | fail) [std]
    | true =>
      have q5 := diskOrdered ⟨d.files, putK (dropK (dropK d.now name) to) to x, d.kept⟩ ⟨hok.1.1, sized_put (sized_drop (sized_drop hok.1.2.1 name) to) hto x (by omega), hok.1.2.2⟩ ⟨inK_put (inK_drop (inK_drop hin.1 name) to) hrx.1 hrx.2, hin.2⟩ (by simp; omega)
      rw [hf] at qf
      simp (config := sc) (disch := first | exact dd | fail) [std, Dk.d]
      refine o_call rfl rfl q rfl rfl ?_
      simp (config := sc) (disch := first | exact dd | fail) [std, hdd]
      refine o_call rfl rfl q1 rfl rfl ?_
      simp (config := sc) (disch := first | exact dd | fail) [std]
      refine o_call rfl rfl qf rfl rfl ?_
      simp (config := sc) (disch := first | exact dd | fail) [std, g2]
      refine o_call rfl rfl q2 rfl rfl ?_
      simp (config := sc) (disch := first | exact dd | fail) [std]
      refine o_call rfl rfl q3 rfl rfl ?_
      simp (config := sc) (disch := first | exact dd | fail) [std, ← g3]
      refine o_call rfl rfl q4 rfl rfl ?_
      simp (config := sc) (disch := first | exact dd | fail) [std]
      refine o_call rfl rfl q5 rfl rfl ?_
      simp (config := sc) (disch := first | exact dd | fail) [std, Dk.d]

end Go.Proofs.YtkbidfohcanijaaGreat
