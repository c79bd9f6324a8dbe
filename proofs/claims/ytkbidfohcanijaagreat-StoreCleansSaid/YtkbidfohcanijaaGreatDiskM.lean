/- Disks: what holds of what is told, in plain terms: it is right; what is found under a name. -/
import Derived.Test.YtkbidfohcanijaaGreatDiskL
namespace Go.Proofs.YtkbidfohcanijaaGreat
open BoEng Go
set_option maxRecDepth 100000
set_option linter.unusedSimpArgs false
set_option linter.unusedVariables false

/-- May a list of names be. -/
structure Nm (l : List Ent) (m : Nat) : Prop where
  srt : Srt l
  fair : ∀ e ∈ l, fairN e.name = true
  inn : inK l m
  nd : (l.map Ent.file).Nodup
theorem nm_of {l : List Ent} {m : Nat} (h : namedS l m = true) : Nm l m := ⟨named_srt h, named_fair h, named_in h, named_nodup h⟩
theorem of_nm {l : List Ent} {m : Nat} (h : Nm l m) : namedS l m = true := by
  rw [named_all]
  intro i hi
  rw [nmAt_get hi]
  have h1 := h.fair _ (List.getElem_mem hi)
  have h2 := h.inn _ (List.getElem_mem hi)
  have h3 : hasF (l.take i) l[i].file = false := by
    rw [Bool.eq_false_iff]
    intro hc
    obtain ⟨e, he, hf⟩ := hasF_iff.1 hc
    obtain ⟨j, hj, rfl⟩ := List.mem_take_iff_getElem.1 he
    have := ent_inj h.nd (by omega) hi hf
    omega
  have h4 : (decide (i = 0) || strLt (l.getD (i - 1) default).name l[i].name) = true := by
    by_cases e : i = 0
    · simp [e]
    · have hj : i - 1 < l.length := by omega
      rw [List.getD_eq_getElem?_getD, List.getElem?_eq_getElem hj, Option.getD_some, srt_lt h.srt hi (show i - 1 < i by omega)]
      simp
  rw [h1, h3, h4]
  simp [h2]
theorem nm_mono {l : List Ent} {m m' : Nat} (h : Nm l m) (hm : m ≤ m') : Nm l m' := ⟨h.srt, h.fair, fun e he => by have := h.inn e he; omega, h.nd⟩
theorem nm_sub {l l' : List Ent} {m : Nat} (h : Nm l m) (hs : l'.Sublist l) : Nm l' m := ⟨h.srt.sublist hs, fun e he => h.fair e (hs.subset he), fun e he => h.inn e (hs.subset he), h.nd.sublist (hs.map _)⟩
theorem nm_drop {l : List Ent} {m : Nat} (h : Nm l m) (n : List UInt8) : Nm (dropK l n) m := nm_sub h List.filter_sublist
theorem mem_drop {l : List Ent} {n : List UInt8} {e : Ent} : e ∈ dropK l n ↔ e ∈ l ∧ e.name ≠ n := by simp [dropK]
theorem mem_put {l : List Ent} {n : List UInt8} {x : Int} {e : Ent} : e ∈ putK l n x ↔ e ∈ l ∨ e = ⟨n, x⟩ := by
  constructor
  · exact put_mem
  · intro h
    unfold putK
    rw [List.mem_append, List.mem_cons]
    rcases h with h | h
    · rw [← List.take_append_drop (atK l n) l, List.mem_append] at h
      rcases h with h | h
      · exact .inl h
      · exact .inr (.inr h)
    · exact .inr (.inl h)
theorem srt_put {l : List Ent} (h : Srt l) {n : List UInt8} (hn : ∀ e ∈ l, e.name ≠ n) (x : Int) : Srt (putK l n x) := by
  have hlo : ∀ e ∈ l.take (atK l n), strLt e.name n = true := by
    intro e he
    obtain ⟨j, hj, rfl⟩ := List.mem_take_iff_getElem.1 he
    exact atK_lt (by omega) (by omega)
  have hhi : ∀ e ∈ l.drop (atK l n), strLt n e.name = true := by
    intro e he
    obtain ⟨j, hj, rfl⟩ := List.mem_drop_iff_getElem.1 he
    have ha : atK l n < l.length := by omega
    have h0 : strLt n l[atK l n].name = true := lt_tri _ _ (atK_at ha) (hn _ (List.getElem_mem ha))
    by_cases e0 : j = 0
    · subst e0; simpa using h0
    · exact lt_trans _ _ _ h0 (srt_lt (i := atK l n) (j := atK l n + j) h (by omega) (by omega))
  unfold Srt putK
  rw [List.pairwise_append]
  refine ⟨List.Pairwise.sublist (List.take_sublist _ _) h, List.pairwise_cons.2 ⟨hhi, List.Pairwise.sublist (List.drop_sublist _ _) h⟩, fun a ha b hb => ?_⟩
  rcases List.mem_cons.1 hb with rfl | hb
  · exact hlo a ha
  · exact lt_trans _ _ _ (hlo a ha) (hhi b hb)
theorem nm_put {l : List Ent} {m : Nat} (h : Nm l m) {n : List UInt8} {x : Int} (hf : fairN n = true) (hn : ∀ e ∈ l, e.name ≠ n) (hx : ∀ e ∈ l, e.file ≠ x) (h0 : 0 ≤ x ∧ x < m) : Nm (putK l n x) m := by
  refine ⟨srt_put h.srt hn x, fun e he => ?_, inK_put h.inn h0.1 h0.2, ?_⟩
  · rcases mem_put.1 he with h1 | rfl
    · exact h.fair e h1
    · exact hf
  · have hp : ((putK l n x).map Ent.file).Perm (x :: l.map Ent.file) := by
      have : (putK l n x).Perm (⟨n, x⟩ :: l) := by
        unfold putK
        have h2 := List.perm_middle (a := (⟨n, x⟩ : Ent)) (l₁ := l.take (atK l n)) (l₂ := l.drop (atK l n))
        rwa [List.take_append_drop] at h2
      exact this.map _
    rw [hp.nodup_iff, List.nodup_cons]
    refine ⟨fun hm => ?_, h.nd⟩
    obtain ⟨e, he, e2⟩ := List.mem_map.1 hm
    exact hx e he e2
theorem srt_inj {l : List Ent} (h : Srt l) {a b : Ent} (ha : a ∈ l) (hb : b ∈ l) (e : a.name = b.name) : a = b := by
  obtain ⟨i, hi, rfl⟩ := List.mem_iff_getElem.1 ha
  obtain ⟨j, hj, rfl⟩ := List.mem_iff_getElem.1 hb
  rcases Nat.lt_trichotomy i j with h1 | h1 | h1
  · have := srt_lt h hj h1
    rw [e, lt_irrefl] at this
    cases this
  · subst h1; rfl
  · have := srt_lt h hi h1
    rw [e, lt_irrefl] at this
    cases this
theorem nd_inj {l : List Ent} (h : (l.map Ent.file).Nodup) {a b : Ent} (ha : a ∈ l) (hb : b ∈ l) (e : a.file = b.file) : a = b := by
  obtain ⟨i, hi, rfl⟩ := List.mem_iff_getElem.1 ha
  obtain ⟨j, hj, rfl⟩ := List.mem_iff_getElem.1 hb
  have := ent_inj h hi hj e
  subst this
  rfl
theorem find_iff {l : List Ent} (h : Srt l) {n : List UInt8} {x : Int} : findK l n = some x ↔ (⟨n, x⟩ : Ent) ∈ l := by
  unfold findK
  constructor
  · intro hf
    rw [Option.map_eq_some_iff] at hf
    obtain ⟨e, he, rfl⟩ := hf
    have h1 := List.mem_of_find?_eq_some he
    have h2 := List.find?_some he
    simp only [decide_eq_true_eq] at h2
    subst h2
    exact h1
  · intro hm
    cases hf : l.find? fun e => decide (e.name = n) with
    | none =>
      have := List.find?_eq_none.1 hf _ hm
      simp at this
    | some e =>
      have h1 := List.mem_of_find?_eq_some hf
      have h2 := List.find?_some hf
      simp only [decide_eq_true_eq] at h2
      rw [srt_inj h h1 hm h2]
      rfl
theorem find_none_iff {l : List Ent} {n : List UInt8} : findK l n = none ↔ ∀ e ∈ l, e.name ≠ n := by
  unfold findK
  rw [Option.map_eq_none_iff, List.find?_eq_none]
  simp

/-! ### in order -/
theorem came_map {w : List Int} {l : List Ent} : (∀ e ∈ l, e.file ∈ w) → cameS (l.map (renE w)) = (cameS l).map (posC w) := by
  induction l using snoc_ind with
  | h0 => intro _; rfl
  | hs l e ih =>
    intro h
    have hl : ∀ x ∈ l, x.file ∈ w := fun x hx => h x (by simp [hx])
    have he := h e (by simp)
    rw [List.map_append, List.map_cons, List.map_nil, cameS_snoc, cameS_snoc, ih hl]
    show addC _ (posC w e.file) = _
    unfold addC
    have : ((cameS l).map (posC w)).contains (posC w e.file) = (cameS l).contains e.file := by
      rw [Bool.eq_iff_iff, List.contains_iff_mem, List.contains_iff_mem, List.mem_map]
      constructor
      · rintro ⟨y, hy, e2⟩
        obtain ⟨e3, he3, rfl⟩ := mem_came.1 hy
        rwa [← posC_inj (hl e3 he3) he e2]
      · exact fun hm => ⟨_, hm, rfl⟩
    rw [this]
    split
    · rfl
    · simp
theorem map_posC {w : List Int} (h : w.Nodup) : w.map (posC w) = upTo w.length := by
  apply List.ext_getElem?
  intro i
  rw [List.getElem?_map]
  by_cases hi : i < w.length
  · rw [upTo_get hi, List.getElem?_eq_getElem hi, Option.map_some, posC, h.idxOf_getElem]
  · rw [List.getElem?_eq_none (by omega), List.getElem?_eq_none (by rw [upTo_len]; omega)]
    rfl
theorem nm_ren {l : List Ent} {m : Nat} (h : Nm l m) {w : List Int} (hw : ∀ e ∈ l, e.file ∈ w) : Nm (l.map (renE w)) w.length := by
  refine ⟨?_, fun e he => ?_, fun e he => ?_, ?_⟩
  · unfold Srt
    rw [List.pairwise_map]
    exact h.srt
  · obtain ⟨x, hx, rfl⟩ := List.mem_map.1 he
    exact h.fair x hx
  · obtain ⟨x, hx, rfl⟩ := List.mem_map.1 he
    exact posC_rng (hw x hx)
  · have : (l.map (renE w)).map Ent.file = (l.map Ent.file).map (posC w) := by
      rw [List.map_map, List.map_map]
      rfl
    rw [this]
    have hp := h.nd
    unfold List.Nodup at hp ⊢
    rw [List.pairwise_map]
    refine hp.imp_of_mem fun {a b} ha hb hne e => hne ?_
    obtain ⟨x, hx, rfl⟩ := List.mem_map.1 ha
    obtain ⟨y, hy, rfl⟩ := List.mem_map.1 hb
    exact posC_inj (hw x hx) (hw y hy) e
theorem fileAt_mem {l : List FileD} {x : Int} (h0 : 0 ≤ x) (h1 : x < l.length) : fileAt l x ∈ l := by
  have : x.toNat < l.length := by omega
  unfold fileAt
  rw [List.getD_eq_getElem?_getD, List.getElem?_eq_getElem this]
  exact List.getElem_mem this
theorem right_ordered {k : Dk} (hn : Nm k.now k.files.length) (hp : Nm k.kept k.files.length) (hf : ∀ f ∈ k.files, fileOk f = true) (h20 : k.files.length ≤ 20) : rightK (orderedS k) = true := by
  have hin : ∀ x ∈ cameS (k.now ++ k.kept), 0 ≤ x ∧ x < k.files.length := by
    intro x hx
    obtain ⟨e, he, rfl⟩ := mem_came.1 hx
    rcases List.mem_append.1 he with h | h
    · exact hn.inn e h
    · exact hp.inn e h
  have hnd := came_nodup (k.now ++ k.kept)
  have hle := nodup_le _ _ hnd hin
  have hm1 : ∀ e ∈ k.now, e.file ∈ cameS (k.now ++ k.kept) := fun e he => mem_came.2 ⟨e, by simp [he], rfl⟩
  have hm2 : ∀ e ∈ k.kept, e.file ∈ cameS (k.now ++ k.kept) := fun e he => mem_came.2 ⟨e, by simp [he], rfl⟩
  have hm : ∀ e ∈ k.now ++ k.kept, e.file ∈ cameS (k.now ++ k.kept) := fun e he => mem_came.2 ⟨e, he, rfl⟩
  rw [rightK_iff]
  have hl : (orderedS k).files.length = (cameS (k.now ++ k.kept)).length := by simp [orderedS]
  rw [hl]
  refine ⟨by omega, of_nm (nm_ren hn hm1), of_nm (nm_ren hp hm2), ?_, ?_⟩
  · rw [List.all_eq_true]
    intro f hff
    obtain ⟨x, hx, rfl⟩ := List.mem_map.1 hff
    obtain ⟨h0, h1⟩ := hin x hx
    exact hf _ (fileAt_mem h0 h1)
  · show cameS (k.now.map (renE (cameS (k.now ++ k.kept))) ++ k.kept.map (renE (cameS (k.now ++ k.kept)))) = _
    rw [← List.map_append, came_map hm, map_posC hnd]
theorem ord_file {k : Dk} {x : Int} (h : x ∈ cameS (k.now ++ k.kept)) : fileAt (orderedS k).files (posC (cameS (k.now ++ k.kept)) x) = fileAt k.files x := by
  have := posC_at h
  show ((cameS (k.now ++ k.kept)).map (fileAt k.files)).getD (posC (cameS (k.now ++ k.kept)) x).toNat default = _
  rw [List.getD_eq_getElem?_getD, List.getElem?_map, this]
  rfl
theorem ord_now {k : Dk} {n : List UInt8} {x : Int} (h : (⟨n, x⟩ : Ent) ∈ k.now) : (⟨n, posC (cameS (k.now ++ k.kept)) x⟩ : Ent) ∈ (orderedS k).now ∧ x ∈ cameS (k.now ++ k.kept) :=
  ⟨List.mem_map.2 ⟨_, h, rfl⟩, mem_came.2 ⟨_, List.mem_append_left _ h, rfl⟩⟩
theorem ord_kept {k : Dk} {n : List UInt8} {x : Int} (h : (⟨n, x⟩ : Ent) ∈ k.kept) : (⟨n, posC (cameS (k.now ++ k.kept)) x⟩ : Ent) ∈ (orderedS k).kept ∧ x ∈ cameS (k.now ++ k.kept) :=
  ⟨List.mem_map.2 ⟨_, h, rfl⟩, mem_came.2 ⟨_, List.mem_append_right _ h, rfl⟩⟩
theorem ord_no {k : Dk} {n : List UInt8} (h : ∀ e ∈ k.now, e.name ≠ n) : ∀ e ∈ (orderedS k).now, e.name ≠ n := by
  intro e he
  obtain ⟨x, hx, rfl⟩ := List.mem_map.1 he
  exact h x hx

/-! ### right disks -/
structure Rt (k : Dk) : Prop where
  n : Nm k.now k.files.length
  p : Nm k.kept k.files.length
  f : ∀ f ∈ k.files, fileOk f = true
  l : k.files.length ≤ 20
theorem rt_of {k : Dk} (h : rightK k = true) : Rt k := by
  obtain ⟨h1, h2, h3, h4, h5⟩ := rightK_iff.1 h
  exact ⟨nm_of h2, nm_of h3, List.all_eq_true.1 h4, h1⟩
theorem rt_ordered {k : Dk} (h : Rt k) : rightK (orderedS k) = true := right_ordered h.n h.p h.f h.l
theorem set_right {k : Dk} (h : rightK k = true) (x : Int) {f : FileD} (hf : fileOk f = true) : rightK (setFile k x f) = true := by
  obtain ⟨h1, h2, h3, h4, h5⟩ := rightK_iff.1 h
  rw [rightK_iff]
  simp only [setFile, List.length_set]
  refine ⟨h1, h2, h3, ?_, h5⟩
  rw [List.all_eq_true] at h4 ⊢
  intro g hg
  rcases List.mem_or_eq_of_mem_set hg with h | rfl
  · exact h4 g h
  · exact hf
theorem fileOk_iff {f : FileD} : fileOk f = true ↔ f.data.length ≤ 20000 ∧ 0 ≤ f.safe ∧ f.safe ≤ f.data.length := by simp [fileOk]
theorem fileOk_at {k : Dk} (h : Rt k) {n : List UInt8} {x : Int} (hx : (⟨n, x⟩ : Ent) ∈ k.now ∨ (⟨n, x⟩ : Ent) ∈ k.kept) : fileOk (fileAt k.files x) = true := by
  refine h.f _ (fileAt_mem ?_ ?_)
  · rcases hx with h1 | h1
    · exact (h.n.inn _ h1).1
    · exact (h.p.inn _ h1).1
  · rcases hx with h1 | h1
    · exact (h.n.inn _ h1).2
    · exact (h.p.inn _ h1).2
theorem rt_append {k : Dk} (h : Rt k) {n b : List UInt8} (hf : fairN n = true) (hn : findK k.now n = none) (h20 : ¬ (k.files.length ≥ 20 ∨ b.length > 20000)) : Rt ⟨k.files ++ [⟨b, 0⟩], putK k.now n k.files.length, k.kept⟩ := by
  have hl : (k.files ++ [(⟨b, 0⟩ : FileD)]).length = k.files.length + 1 := by simp
  refine ⟨?_, ?_, fun f hff => ?_, by rw [hl]; omega⟩
  · rw [hl]
    exact nm_put (nm_mono h.n (by omega)) hf (find_none_iff.1 hn) (fun e he => by have := h.n.inn e he; omega) (by omega)
  · rw [hl]
    exact nm_mono h.p (by omega)
  · rcases List.mem_append.1 hff with h1 | h1
    · exact h.f f h1
    · simp at h1
      subst h1
      rw [fileOk_iff]
      simp
      omega
theorem rt_rename {k : Dk} (h : Rt k) {n to : List UInt8} {x : Int} (hf : fairN to = true) (hx : (⟨n, x⟩ : Ent) ∈ k.now) : Rt ⟨k.files, putK (dropK (dropK k.now n) to) to x, k.kept⟩ := by
  refine ⟨nm_put (nm_drop (nm_drop h.n n) to) hf (fun e he => (mem_drop.1 he).2) (fun e he e2 => ?_) (h.n.inn _ hx), h.p, h.f, h.l⟩
  have h1 := (mem_drop.1 (mem_drop.1 he).1)
  have := nd_inj h.n.nd h1.1 hx e2
  exact h1.2 (by rw [this])
theorem append_right (k : Dk) (n b : List UInt8) : rightK (appendS k n b).1 = true := by
  have hg := good_right k
  unfold appendS
  generalize goodK k = d at *
  have hr := rt_of hg
  split
  · exact hg
  rename_i hfn
  have hfn : fairN n = true := by simpa using hfn
  cases hx : findK d.now n with
  | none =>
    dsimp only
    split
    · exact hg
    rename_i hc
    exact rt_ordered (rt_append hr hfn hx hc)
  | some x =>
    dsimp only
    split
    · exact hg
    rename_i hc
    have hm := (find_iff hr.n.srt).1 hx
    have hk := fileOk_iff.1 (fileOk_at hr (.inl hm))
    refine set_right hg x (fileOk_iff.2 ⟨?_, hk.2.1, ?_⟩)
    · simp; omega
    · simp; omega
theorem sync_right (k : Dk) (n : List UInt8) : rightK (syncS k n).1 = true := by
  have hg := good_right k
  unfold syncS
  generalize goodK k = d at *
  have hr := rt_of hg
  cases hx : findK d.now n with
  | none => exact hg
  | some x =>
    have hk := fileOk_iff.1 (fileOk_at hr (.inl ((find_iff hr.n.srt).1 hx)))
    exact set_right hg x (fileOk_iff.2 ⟨hk.1, by simp, by simp⟩)
theorem cut_right (k : Dk) (n : List UInt8) (m : Int) : rightK (cutS k n m).1 = true := by
  have hg := good_right k
  unfold cutS
  generalize goodK k = d at *
  have hr := rt_of hg
  cases hx : findK d.now n with
  | none => exact hg
  | some x =>
    dsimp only
    split
    · exact hg
    rename_i hc
    have hk := fileOk_iff.1 (fileOk_at hr (.inl ((find_iff hr.n.srt).1 hx)))
    refine set_right hg x (fileOk_iff.2 ⟨?_, by show 0 ≤ m; omega, ?_⟩)
    · simp; omega
    · simp; omega
theorem rename_right (k : Dk) (n to : List UInt8) : rightK (renameS k n to).1 = true := by
  have hg := good_right k
  unfold renameS
  generalize goodK k = d at *
  have hr := rt_of hg
  cases hx : findK d.now n with
  | none => exact hg
  | some x =>
    dsimp only
    split
    · exact hg
    rename_i hf
    exact rt_ordered (rt_rename hr (by simpa using hf) ((find_iff hr.n.srt).1 hx))
theorem remove_right (k : Dk) (n : List UInt8) : rightK (removeS k n).1 = true := by
  have hg := good_right k
  unfold removeS
  generalize goodK k = d at *
  have hr := rt_of hg
  cases hx : findK d.now n with
  | none => exact hg
  | some x => exact rt_ordered ⟨nm_drop hr.n n, hr.p, hr.f, hr.l⟩
theorem syncDir_right (k : Dk) : rightK (syncDirS k) = true := by
  have hg := good_right k
  unfold syncDirS
  generalize goodK k = d at *
  have hr := rt_of hg
  exact rt_ordered ⟨hr.n, hr.n, hr.f, hr.l⟩
theorem crashL_nm (k : Dk) (dir : Bool) : Nm (crashL k dir) (goodK k).files.length := by
  have hr := rt_of (good_right k)
  unfold crashL
  cases dir
  · exact hr.p
  · exact hr.n
theorem leftN_rng {f : FileD} (h : fileOk f = true) (q : Option Int) : f.safe ≤ leftN f q ∧ leftN f q ≤ f.data.length := by
  have h := fileOk_iff.1 h
  unfold leftN
  cases q <;> simp <;> omega
theorem crash_right (k : Dk) (keep : List Int) (dir : Bool) : rightK (crashS k keep dir) = true := by
  have hn := crashL_nm k dir
  have hr := rt_of (good_right k)
  rw [rightK_iff]
  have hl : (crashS k keep dir).files.length = (crashL k dir).length := by simp [crashS]
  rw [hl]
  have hll : (crashL k dir).length ≤ 20 := Nat.le_trans (nodup_le _ _ hn.nd (fun x hx => by
    obtain ⟨e, he, rfl⟩ := List.mem_map.1 hx
    exact hn.inn e he) |> fun h => by simpa using h) hr.l
  have hg : ∀ i (hi : i < (crashL k dir).length), (crashL k dir).getD i default = (crashL k dir)[i] := by
    intro i hi
    rw [List.getD_eq_getElem?_getD, List.getElem?_eq_getElem hi, Option.getD_some]
  have hfl : ((List.range (crashL k dir).length).map fun i => (⟨((crashL k dir).getD i default).name, (i : Int)⟩ : Ent)).map Ent.file = upTo (crashL k dir).length := by
    rw [List.map_map]
    rfl
  have hnd : (upTo (crashL k dir).length).Nodup := by
    unfold upTo List.Nodup
    rw [List.pairwise_map]
    exact (List.nodup_range (n := (crashL k dir).length)).imp (by intro a b h e; exact h (by omega))
  have hm : Nm ((List.range (crashL k dir).length).map fun i => (⟨((crashL k dir).getD i default).name, (i : Int)⟩ : Ent)) (crashL k dir).length := by
    refine ⟨?_, fun e he => ?_, fun e he => ?_, by rw [hfl]; exact hnd⟩
    · unfold Srt
      rw [List.pairwise_map, List.pairwise_iff_getElem]
      intro i j hi hj hij
      simp only [List.length_range] at hi hj
      simp only [List.getElem_range, hg i hi, hg j hj]
      exact srt_lt hn.srt hj hij
    · obtain ⟨i, hi, rfl⟩ := List.mem_map.1 he
      have hi := List.mem_range.1 hi
      simp only [hg i hi]
      exact hn.fair _ (List.getElem_mem hi)
    · obtain ⟨i, hi, rfl⟩ := List.mem_map.1 he
      have hi := List.mem_range.1 hi
      simp
      omega
  refine ⟨hll, of_nm hm, of_nm hm, ?_, ?_⟩
  · rw [List.all_eq_true]
    intro f hf
    obtain ⟨i, hi, rfl⟩ := List.mem_map.1 hf
    have hi := List.mem_range.1 hi
    rw [hg i hi]
    have hok : fileOk (fileAt (goodK k).files (crashL k dir)[i].file) = true := by
      have := hn.inn _ (List.getElem_mem hi)
      exact hr.f _ (fileAt_mem this.1 this.2)
    have hlf := leftN_rng hok keep[i]?
    have hk := fileOk_iff.1 hok
    refine fileOk_iff.2 ⟨?_, ?_, ?_⟩
    · simp [cutF]; omega
    · simp [cutF]; omega
    · simp [cutF]; omega
  · show cameS (_ ++ _) = _
    have e1 : (crashS k keep dir).now = (List.range (crashL k dir).length).map fun i => (⟨((crashL k dir).getD i default).name, (i : Int)⟩ : Ent) := rfl
    have e2 : (crashS k keep dir).kept = (crashS k keep dir).now := rfl
    rw [e2, came_twice, e1, came_self hm.nd, hfl]
/-! ### what is found -/
theorem get_at {k : Dk} (h : rightK k = true) {n : List UInt8} {x : Int} (hx : (⟨n, x⟩ : Ent) ∈ k.now) : getS k n = ((fileAt k.files x).data, 0) := by
  unfold getS
  rw [good_id h, (find_iff (rt_of h).n.srt).2 hx]
theorem get_no {k : Dk} (h : rightK k = true) {n : List UInt8} (hx : ∀ e ∈ k.now, e.name ≠ n) : getS k n = ([], 5) := by
  unfold getS
  rw [good_id h, find_none_iff.2 hx]
/-- What a crash leaves of a name. -/
theorem crash_at {k : Dk} (h : rightK k = true) {keep : List Int} {dir : Bool} {n : List UInt8} {x : Int} (hx : (⟨n, x⟩ : Ent) ∈ (if dir then k.now else k.kept)) :
    ∃ q, getS (crashS k keep dir) n = ((fileAt k.files x).data.take (leftN (fileAt k.files x) q).toNat, 0) ∧ (keep = [] → q = none) := by
  have hL : crashL k dir = if dir then k.now else k.kept := by unfold crashL; rw [good_id h]
  rw [← hL] at hx
  obtain ⟨i, hi, he⟩ := List.mem_iff_getElem.1 hx
  have hg : (crashL k dir).getD i default = ⟨n, x⟩ := by rw [List.getD_eq_getElem?_getD, List.getElem?_eq_getElem hi, Option.getD_some, he]
  have hm : (⟨n, (i : Int)⟩ : Ent) ∈ (crashS k keep dir).now := by
    refine List.mem_map.2 ⟨i, List.mem_range.2 hi, ?_⟩
    rw [hg]
  refine ⟨keep[i]?, ?_, fun e => by simp [e]⟩
  rw [get_at (crash_right k keep dir) hm]
  have : fileAt (crashS k keep dir).files (i : Int) = cutF (fileAt k.files x) (leftN (fileAt k.files x) keep[i]?) := by
    show ((List.range (crashL k dir).length).map _).getD _ default = _
    rw [List.getD_eq_getElem?_getD, List.getElem?_map, Int.toNat_natCast, List.getElem?_range hi]
    simp only [Option.map_some, Option.getD_some, hg, good_id h]
  rw [this]
  rfl

end Go.Proofs.YtkbidfohcanijaaGreat
