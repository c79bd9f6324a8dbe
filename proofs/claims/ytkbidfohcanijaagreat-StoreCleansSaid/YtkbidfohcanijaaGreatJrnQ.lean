/- Journals, plain laws: disks that are found again. -/
import Derived.Test.YtkbidfohcanijaaGreatJrnP
namespace Go.Proofs.YtkbidfohcanijaaGreat
open BoEng Go
set_option maxRecDepth 100000
set_option linter.unusedSimpArgs false
set_option linter.unusedVariables false

/-- The file of a name in a list; the empty one, if there is none. -/
def fat (n : List UInt8) (fs : List FileD) (l : List Ent) : FileD := match findK l n with | some x => fileAt fs x | none => ⟨[], 0⟩
theorem fat_some {n : List UInt8} {fs : List FileD} {l : List Ent} {x : Int} (h : findK l n = some x) : fat n fs l = fileAt fs x := by unfold fat; rw [h]
theorem fat_none {n : List UInt8} {fs : List FileD} {l : List Ent} (h : findK l n = none) : fat n fs l = ⟨[], 0⟩ := by unfold fat; rw [h]
theorem fat_get {k : Dk} (h : rightK k = true) (n : List UInt8) : (getS k n).1 = (fat n k.files k.now).data := by
  unfold getS fat
  rw [good_id h]
  cases findK k.now n <;> rfl
theorem find_in {l : List Ent} {m : Nat} (h : inK l m) {n : List UInt8} {x : Int} (hx : findK l n = some x) : 0 ≤ x ∧ x < m := by
  unfold findK at hx
  rw [Option.map_eq_some_iff] at hx
  obtain ⟨e, he, rfl⟩ := hx
  exact h e (List.mem_of_find?_eq_some he)
theorem fat_set {n : List UInt8} {fs : List FileD} {l : List Ent} {x : Int} (hin : inK l fs.length) (h0 : 0 ≤ x) (h1 : x < fs.length) (f : FileD) : fat n (fs.set x.toNat f) l = if findK l n = some x then f else fat n fs l := by
  unfold fat
  cases hy : findK l n with
  | none => rfl
  | some y =>
    have hr := find_in hin hy
    by_cases e : y = x
    · subst e
      rw [if_pos rfl]
      exact fileAt_set h0 h1 f
    · rw [if_neg (by simpa using e)]
      exact fileAt_ne h0 hr.1 e f
theorem find_ren (w : List Int) (n : List UInt8) : ∀ l : List Ent, findK (l.map (renE w)) n = (findK l n).map (posC w)
  | [] => rfl
  | e :: l => by
    have ih := find_ren w n l
    unfold findK at ih ⊢
    simp only [List.map_cons, List.find?_cons]
    have : decide ((renE w e).name = n) = decide (e.name = n) := rfl
    rw [this]
    cases decide (e.name = n) with
    | true => rfl
    | false => exact ih
theorem find_mem {l : List Ent} {n : List UInt8} {x : Int} (hx : findK l n = some x) : (⟨n, x⟩ : Ent) ∈ l := by
  unfold findK at hx
  rw [Option.map_eq_some_iff] at hx
  obtain ⟨e, he, rfl⟩ := hx
  have h1 := List.mem_of_find?_eq_some he
  have h2 := List.find?_some he
  simp only [decide_eq_true_eq] at h2
  subst h2
  exact h1
theorem fat_onow (k : Dk) (n : List UInt8) : fat n (orderedS k).files (orderedS k).now = fat n k.files k.now := by
  unfold fat
  show (match findK (k.now.map (renE (cameS (k.now ++ k.kept)))) n with | some x => fileAt (orderedS k).files x | none => ⟨[], 0⟩) = _
  rw [find_ren]
  cases hx : findK k.now n with
  | none => rfl
  | some x => exact ord_file (ord_now (find_mem hx)).2
theorem fat_okept (k : Dk) (n : List UInt8) : fat n (orderedS k).files (orderedS k).kept = fat n k.files k.kept := by
  unfold fat
  show (match findK (k.kept.map (renE (cameS (k.now ++ k.kept)))) n with | some x => fileAt (orderedS k).files x | none => ⟨[], 0⟩) = _
  rw [find_ren]
  cases hx : findK k.kept n with
  | none => rfl
  | some x => exact ord_file (ord_kept (find_mem hx)).2
theorem find_drop {l : List Ent} {n m : List UInt8} (h : n ≠ m) : findK (dropK l m) n = findK l n := by
  induction l with
  | nil => rfl
  | cons e l ih =>
    unfold dropK findK at ih ⊢
    by_cases e1 : e.name = m
    · rw [List.filter_cons_of_neg (by simp [e1])]
      rw [List.find?_cons_of_neg (by simp [e1]; exact fun h2 => h h2.symm)]
      exact ih
    · rw [List.filter_cons_of_pos (by simp [e1])]
      simp only [List.find?_cons]
      cases decide (e.name = n) with
      | true => rfl
      | false => exact ih
theorem find_drop_same {l : List Ent} {n : List UInt8} : findK (dropK l n) n = none := find_none_iff.2 fun e he => (mem_drop.1 he).2
theorem find_put {l : List Ent} (hs : Srt l) {n : List UInt8} (hn : findK l n = none) (x : Int) (m : List UInt8) : findK (putK l n x) m = if m = n then some x else findK l m := by
  have hs2 := srt_put hs (find_none_iff.1 hn) x
  by_cases e : m = n
  · subst e
    rw [if_pos rfl, find_iff hs2]
    exact mem_put.2 (.inr rfl)
  · rw [if_neg e]
    cases hy : findK l m with
    | none =>
      rw [find_none_iff]
      intro a ha
      rcases mem_put.1 ha with h | rfl
      · exact find_none_iff.1 hy a h
      · exact fun h => e h.symm
    | some y =>
      rw [find_iff hs2]
      exact mem_put.2 (.inl (find_mem hy))
theorem fat_app {n : List UInt8} {fs gs : List FileD} {l : List Ent} (hin : inK l fs.length) : fat n (fs ++ gs) l = fat n fs l := by
  unfold fat
  cases hy : findK l n with
  | none => rfl
  | some y => exact fileAt_app (find_in hin hy).1 (find_in hin hy).2
theorem right_inn {k : Dk} (h : rightK k = true) : inK k.now k.files.length ∧ inK k.kept k.files.length := ⟨(rt_of h).n.inn, (rt_of h).p.inn⟩

/-! ### what becomes of a name's file -/
theorem sync_at {k : Dk} (h : rightK k = true) {m : List UInt8} {x : Int} (hx : findK k.now m = some x) : syncS k m = (setFile k x ⟨(fileAt k.files x).data, (fileAt k.files x).data.length⟩, 0) := by
  unfold syncS
  rw [good_id h, hx]
theorem sync_no {k : Dk} (h : rightK k = true) {m : List UInt8} (hx : findK k.now m = none) : syncS k m = (k, 5) := by
  unfold syncS
  rw [good_id h, hx]
theorem cut_at {k : Dk} (h : rightK k = true) {m : List UInt8} {x : Int} (hx : findK k.now m = some x) {n : Nat} (hn : n ≤ (fileAt k.files x).data.length) : cutS k m n = (setFile k x ⟨(fileAt k.files x).data.take n, n⟩, 0) := by
  unfold cutS
  rw [good_id h, hx]
  dsimp only
  rw [if_neg (by omega), Int.toNat_natCast]
theorem fat_setFile {k : Dk} (h : rightK k = true) {x : Int} (h0 : 0 ≤ x) (h1 : x < k.files.length) (f : FileD) (n : List UInt8) :
    fat n (setFile k x f).files (setFile k x f).now = (if findK k.now n = some x then f else fat n k.files k.now) ∧ fat n (setFile k x f).files (setFile k x f).kept = (if findK k.kept n = some x then f else fat n k.files k.kept) :=
  ⟨fat_set (right_inn h).1 h0 h1 f, fat_set (right_inn h).2 h0 h1 f⟩
theorem remove_fat {k : Dk} (h : rightK k = true) {m n : List UInt8} (hne : n ≠ m) : fat n (removeS k m).1.files (removeS k m).1.now = fat n k.files k.now ∧ fat n (removeS k m).1.files (removeS k m).1.kept = fat n k.files k.kept := by
  unfold removeS
  rw [good_id h]
  cases hx : findK k.now m with
  | none => exact ⟨rfl, rfl⟩
  | some x =>
    dsimp only
    rw [fat_onow, fat_okept]
    refine ⟨?_, rfl⟩
    unfold fat
    rw [find_drop hne]
theorem syncDir_fat {k : Dk} (h : rightK k = true) (n : List UInt8) : fat n (syncDirS k).files (syncDirS k).now = fat n k.files k.now ∧ fat n (syncDirS k).files (syncDirS k).kept = fat n k.files k.now := by
  unfold syncDirS
  rw [good_id h, fat_onow, fat_okept]
  exact ⟨rfl, rfl⟩
theorem syncDir_kept (k : Dk) : (syncDirS k).kept = (syncDirS k).now := rfl
theorem crash_fat {k : Dk} (h : rightK k = true) (keep : List Int) (dir : Bool) (n : List UInt8) : ∃ q, fat n (crashS k keep dir).files (crashS k keep dir).now =
    cutF (fat n k.files (if dir then k.now else k.kept)) (leftN (fat n k.files (if dir then k.now else k.kept)) q) := by
  have hL : crashL k dir = if dir then k.now else k.kept := by unfold crashL; rw [good_id h]
  have hr := crash_right k keep dir
  cases hx : findK (if dir then k.now else k.kept) n with
  | none =>
    refine ⟨none, ?_⟩
    rw [fat_none hx]
    have : findK (crashS k keep dir).now n = none := by
      rw [find_none_iff]
      intro e he
      obtain ⟨i, hi, rfl⟩ := List.mem_map.1 he
      have hi := List.mem_range.1 hi
      rw [← hL] at hx
      have := find_none_iff.1 hx _ (List.getElem_mem hi)
      rw [List.getD_eq_getElem?_getD, List.getElem?_eq_getElem hi, Option.getD_some]
      exact this
    rw [fat_none this]
    rfl
  | some x =>
    have hm := find_mem hx
    rw [← hL] at hm
    obtain ⟨i, hi, he⟩ := List.mem_iff_getElem.1 hm
    have hg : (crashL k dir).getD i default = ⟨n, x⟩ := by rw [List.getD_eq_getElem?_getD, List.getElem?_eq_getElem hi, Option.getD_some, he]
    have hm2 : (⟨n, (i : Int)⟩ : Ent) ∈ (crashS k keep dir).now := by
      refine List.mem_map.2 ⟨i, List.mem_range.2 hi, ?_⟩
      rw [hg]
    refine ⟨keep[i]?, ?_⟩
    rw [fat_some ((find_iff (rt_of hr).n.srt).2 hm2), fat_some hx]
    show ((List.range (crashL k dir).length).map _).getD _ default = _
    rw [List.getD_eq_getElem?_getD, List.getElem?_map, Int.toNat_natCast, List.getElem?_range hi]
    simp only [Option.map_some, Option.getD_some, hg, good_id h]
theorem crash_kept (k : Dk) (keep : List Int) (dir : Bool) : (crashS k keep dir).kept = (crashS k keep dir).now := rfl
theorem fat_ok {k : Dk} (h : rightK k = true) (n : List UInt8) : fileOk (fat n k.files k.now) = true ∧ fileOk (fat n k.files k.kept) = true := by
  have hr := rt_of h
  unfold fat
  constructor
  · cases hx : findK k.now n with
    | none => rfl
    | some x => exact fileOk_at hr (.inl (find_mem hx))
  · cases hx : findK k.kept n with
    | none => rfl
    | some x => exact fileOk_at hr (.inr (find_mem hx))
/-- Bytes are appended to a name. -/
theorem append_fat {k : Dk} (h : rightK k = true) {m b : List UInt8} (hf : fairN m = true) (h0 : (appendS k m b).2 = 0) :
    fat m (appendS k m b).1.files (appendS k m b).1.now = ⟨(fat m k.files k.now).data ++ b, (fat m k.files k.now).safe⟩ ∧
    (fat m (appendS k m b).1.files (appendS k m b).1.kept = fat m k.files k.kept ∨ (fat m k.files k.kept = fat m k.files k.now ∧ fat m (appendS k m b).1.files (appendS k m b).1.kept = ⟨(fat m k.files k.now).data ++ b, (fat m k.files k.now).safe⟩)) ∧
    (∀ x, findK k.now m = some x → (appendS k m b).1 = setFile k x ⟨(fileAt k.files x).data ++ b, (fileAt k.files x).safe⟩) ∧
    (∀ n, n ≠ m → findK k.now m = none → fat n (appendS k m b).1.files (appendS k m b).1.now = fat n k.files k.now ∧ fat n (appendS k m b).1.files (appendS k m b).1.kept = fat n k.files k.kept) := by
  have hr := rt_of h
  unfold appendS at h0 ⊢
  rw [good_id h] at h0 ⊢
  rw [if_neg (by rw [hf]; decide)] at h0 ⊢
  cases hx : findK k.now m with
  | none =>
    rw [hx] at h0
    dsimp only at h0 ⊢
    by_cases hc : k.files.length ≥ 20 ∨ b.length > 20000
    · rw [if_pos hc] at h0; simp at h0
    rw [if_neg hc]
    dsimp only
    simp only [fat_onow, fat_okept]
    refine ⟨?_, .inl ?_, fun x hx2 => by (cases hx2), fun n hn _ => ⟨?_, ?_⟩⟩
    · rw [fat_none hx, fat_some (by rw [find_put hr.n.srt hx, if_pos rfl]), fileAt_snoc]
      try rfl
    · exact fat_app hr.p.inn
    · unfold fat
      rw [find_put hr.n.srt hx, if_neg hn]
      exact fat_app (n := n) hr.n.inn
    · exact fat_app hr.p.inn
  | some x =>
    rw [hx] at h0
    dsimp only at h0 ⊢
    by_cases hc : (fileAt k.files x).data.length + b.length > 20000
    · rw [if_pos hc] at h0; simp at h0
    rw [if_neg hc]
    have hin := find_in hr.n.inn hx
    have q := fat_setFile h hin.1 hin.2 ⟨(fileAt k.files x).data ++ b, (fileAt k.files x).safe⟩ m
    rw [if_pos hx] at q
    refine ⟨by rw [q.1, fat_some hx], ?_, fun y hy => by cases hy; rfl, fun n hn hno => by cases hno⟩
    rw [q.2]
    by_cases hk : findK k.kept m = some x
    · rw [if_pos hk, fat_some hx, fat_some hk]
      exact .inr ⟨rfl, rfl⟩
    · rw [if_neg hk]
      exact .inl rfl
theorem append_room {k : Dk} (h : rightK k = true) {m b : List UInt8} (hf : fairN m = true) (h1 : k.files.length < 20) (h2 : (fat m k.files k.now).data.length + b.length ≤ 20000) : (appendS k m b).2 = 0 := by
  unfold appendS
  rw [good_id h, if_neg (by rw [hf]; decide)]
  cases hx : findK k.now m with
  | none => dsimp only; rw [if_neg (by omega)]
  | some x =>
    rw [fat_some hx] at h2
    dsimp only
    rw [if_neg (by omega)]
theorem append_fail {k : Dk} (h : rightK k = true) {m b : List UInt8} (h0 : (appendS k m b).2 ≠ 0) : (appendS k m b).1 = k := by
  unfold appendS at h0 ⊢
  rw [good_id h] at h0 ⊢
  split at h0
  · rename_i hf; rw [if_pos hf]
  rename_i hf
  rw [if_neg hf]
  cases hx : findK k.now m with
  | none =>
    rw [hx] at h0
    dsimp only at h0 ⊢
    by_cases hc : k.files.length ≥ 20 ∨ b.length > 20000
    · rw [if_pos hc]
    · rw [if_neg hc] at h0; simp at h0
  | some x =>
    rw [hx] at h0
    dsimp only at h0 ⊢
    by_cases hc : (fileAt k.files x).data.length + b.length > 20000
    · rw [if_pos hc]
    · rw [if_neg hc] at h0; simp at h0
theorem append_find {k : Dk} (h : rightK k = true) {m b : List UInt8} (h0 : (appendS k m b).2 = 0) : ∃ x, findK (appendS k m b).1.now m = some x := by
  obtain ⟨x, hx⟩ := append_has k m b h0
  exact ⟨x, (find_iff (rt_of (append_right k m b)).n.srt).2 hx⟩

/-! ### found again -/
def okR (A : List LeaseR → Prop) (b : List UInt8) : Prop := A (readJ b).1 ∧ ((readJ b).2.2 = 0 ∨ (readJ b).2.2 = 4)
/-- Whatever is left of a file is read as leases of a kind. -/
def okF (A : List LeaseR → Prop) (f : FileD) : Prop := ∀ n : Nat, f.safe ≤ n → n ≤ f.data.length → okR A (f.data.take n)
structure Rec (A : List LeaseR → Prop) (k : Dk) : Prop where
  r : rightK k = true
  n : okF A (fat nJ k.files k.now)
  p : okF A (fat nJ k.files k.kept)
theorem okF_mono {A B : List LeaseR → Prop} (h : ∀ x, A x → B x) {f : FileD} (hf : okF A f) : okF B f := fun n h1 h2 => ⟨h _ (hf n h1 h2).1, (hf n h1 h2).2⟩
theorem Rec.mono {A B : List LeaseR → Prop} (h : ∀ x, A x → B x) {k : Dk} (hr : Rec A k) : Rec B k := ⟨hr.r, okF_mono h hr.n, okF_mono h hr.p⟩
theorem okF_full {A : List LeaseR → Prop} {f : FileD} (hok : fileOk f = true) (hf : okF A f) : okR A f.data := by
  have h := fileOk_iff.1 hok
  have := hf f.data.length (by omega) (Nat.le_refl _)
  rwa [List.take_of_length_le (Nat.le_refl _)] at this
theorem okF_synced {A : List LeaseR → Prop} {b : List UInt8} (h : okR A b) : okF A ⟨b, b.length⟩ := by
  intro n h1 h2
  dsimp only at h1 h2 ⊢
  rwa [List.take_of_length_le (by omega)]
theorem okF_cut {A : List LeaseR → Prop} {f : FileD} (hok : fileOk f = true) (hf : okF A f) (q : Option Int) : okF A (cutF f (leftN f q)) := by
  have hl := leftN_rng hok q
  have h := fileOk_iff.1 hok
  intro n h1 h2
  simp only [cutF, List.length_take] at h1 h2 ⊢
  have e : n = (leftN f q).toNat := by omega
  rw [List.take_take, e, Nat.min_self]
  exact hf _ (by omega) (by omega)
theorem okF_nil {A : List LeaseR → Prop} : okF A ⟨[], 0⟩ ↔ A [] := by
  constructor
  · intro h
    exact (h 0 (Int.le_refl _) (Nat.le_refl _)).1
  · intro h n h1 h2
    rw [List.take_nil]
    exact ⟨h, .inl rfl⟩
theorem rec_get {A : List LeaseR → Prop} {k : Dk} (h : Rec A k) : okR A (getS k nJ).1 := by
  rw [fat_get h.r]
  exact okF_full (fat_ok h.r nJ).1 h.n
theorem rec_crash {A : List LeaseR → Prop} {k : Dk} (h : Rec A k) (keep : List Int) (dir : Bool) : Rec A (crashS k keep dir) := by
  obtain ⟨q, hq⟩ := crash_fat h.r keep dir nJ
  have : okF A (fat nJ (crashS k keep dir).files (crashS k keep dir).now) := by
    rw [hq]
    cases dir with
    | true => exact okF_cut (fat_ok h.r nJ).1 h.n q
    | false => exact okF_cut (fat_ok h.r nJ).2 h.p q
  exact ⟨crash_right _ _ _, this, by rw [crash_kept]; exact this⟩
theorem rec_remove {A : List LeaseR → Prop} {k : Dk} (h : Rec A k) : Rec A (removeS k nK).1 := by
  have q := remove_fat h.r (m := nK) (n := nJ) (by decide)
  exact ⟨remove_right _ _, by rw [q.1]; exact h.n, by rw [q.2]; exact h.p⟩
theorem rec_syncDir {A : List LeaseR → Prop} {k : Dk} (hr : rightK k = true) (h : okF A (fat nJ k.files k.now)) : Rec A (syncDirS k) := by
  have q := syncDir_fat hr nJ
  exact ⟨syncDir_right _, by rw [q.1]; exact h, by rw [q.2]; exact h⟩
theorem rec_sync {A : List LeaseR → Prop} {k : Dk} (h : Rec A k) (m : List UInt8) : Rec A (syncS k m).1 := by
  have hs := sync_right k m
  cases hx : findK k.now m with
  | none => rw [sync_no h.r hx]; exact h
  | some x =>
    rw [sync_at h.r hx] at hs ⊢
    have hin := find_in (right_inn h.r).1 hx
    have q := fat_setFile h.r hin.1 hin.2 ⟨(fileAt k.files x).data, (fileAt k.files x).data.length⟩ nJ
    refine ⟨hs, ?_, ?_⟩
    · rw [q.1]
      by_cases e : findK k.now nJ = some x
      · rw [if_pos e]
        have h1 := h.n
        have h2 := (fat_ok h.r nJ).1
        rw [fat_some e] at h1 h2
        exact okF_synced (okF_full h2 h1)
      · rw [if_neg e]; exact h.n
    · rw [q.2]
      by_cases e : findK k.kept nJ = some x
      · rw [if_pos e]
        have h1 := h.p
        have h2 := (fat_ok h.r nJ).2
        rw [fat_some e] at h1 h2
        exact okF_synced (okF_full h2 h1)
      · rw [if_neg e]; exact h.p
/-- A disk whose journal has leases, whatever befalls it. -/
structure Sd (k : Dk) (xs : List LeaseR) : Prop where
  r : rightK k = true
  f : ∃ b n, fat nJ k.files k.now = ⟨b, b.length⟩ ∧ fat nJ k.files k.kept = ⟨b, b.length⟩ ∧ readJ b = (xs, n, 0)
theorem Sd.c {k : Dk} {xs : List LeaseR} (h : Sd k xs) : Rec (fun z => z = xs) k := by
  obtain ⟨hr, b, n, h1, h2, h3⟩ := h
  have : okF (fun z => z = xs) ⟨b, b.length⟩ := okF_synced ⟨by rw [h3], by rw [h3]; exact .inl rfl⟩
  exact ⟨hr, by rw [h1]; exact this, by rw [h2]; exact this⟩
theorem Sd.z {k : Dk} {xs : List LeaseR} (h : Sd k xs) : (readJ (getS k nJ).1).2.2 = 0 := by
  obtain ⟨hr, b, n, h1, h2, h3⟩ := h
  rw [fat_get hr, h1]
  show (readJ b).2.2 = 0
  rw [h3]
theorem cutF_full {b : List UInt8} (h : b.length ≤ 20000) (q : Option Int) : cutF ⟨b, b.length⟩ (leftN ⟨b, b.length⟩ q) = ⟨b, b.length⟩ := by
  have := leftN_rng (f := ⟨b, b.length⟩) (fileOk_iff.2 ⟨h, by simp, by simp⟩) q
  simp only at this
  have e : leftN ⟨b, b.length⟩ q = b.length := by omega
  unfold cutF
  rw [e]
  simp
theorem sd_crash {k : Dk} {xs : List LeaseR} (h : Sd k xs) (keep : List Int) (dir : Bool) : Sd (crashS k keep dir) xs := by
  obtain ⟨hr, b, n, h1, h2, h3⟩ := h
  have hb : b.length ≤ 20000 := by
    have := (fileOk_iff.1 (fat_ok hr nJ).1).1
    rw [h1] at this
    exact this
  obtain ⟨q, hq⟩ := crash_fat hr keep dir nJ
  have e : fat nJ k.files (if dir = true then k.now else k.kept) = ⟨b, b.length⟩ := by
    cases dir
    · exact h2
    · exact h1
  rw [e, cutF_full hb] at hq
  exact ⟨crash_right _ _ _, b, n, hq, by rw [crash_kept]; exact hq, h3⟩
theorem Sd.read {k : Dk} {xs : List LeaseR} (h : Sd k xs) : ∃ n : Int, readJ (getS k nJ).1 = (xs, n, 0) := by
  have h1 := (rec_get h.c).1
  have h2 := h.z
  generalize readJ (getS k nJ).1 = r at *
  obtain ⟨a, b, c⟩ := r
  dsimp only at h1 h2
  exact ⟨b, by rw [h1, h2]⟩
/-- Which names there are. -/
def Nms (k : Dk) : Prop := ∀ e ∈ k.now ++ k.kept, e.name = nJ ∨ e.name = nK
theorem nms_ordered {k : Dk} (h : Nms k) : Nms (orderedS k) := by
  intro e he
  rcases List.mem_append.1 he with h1 | h1
  · obtain ⟨x, hx, rfl⟩ := List.mem_map.1 h1
    exact h x (List.mem_append_left _ hx)
  · obtain ⟨x, hx, rfl⟩ := List.mem_map.1 h1
    exact h x (List.mem_append_right _ hx)
theorem srt_two {l : List Ent} (hs : Srt l) (h : ∀ e ∈ l, e.name = nJ ∨ e.name = nK) : l.length ≤ 2 := by
  match l, hs, h with
  | [], _, _ => simp
  | [a], _, _ => simp
  | [a, b], _, _ => simp
  | a :: b :: c :: l, hs, h =>
    exfalso
    have h1 := srt_lt hs (i := 0) (j := 1) (by simp) (by omega)
    have h2 := srt_lt hs (i := 1) (j := 2) (by simp) (by omega)
    simp only [List.getElem_cons_zero, List.getElem_cons_succ] at h1 h2
    rcases h a (by simp) with ea | ea <;> rcases h b (by simp) with eb | eb <;> rcases h c (by simp) with ec | ec <;> rw [ea, eb] at h1 <;> rw [eb, ec] at h2 <;> revert h1 h2 <;> decide
theorem nms_few {k : Dk} (hr : rightK k = true) (h : Nms k) : k.files.length ≤ 4 := by
  have h1 := srt_two (rt_of hr).n.srt fun e he => h e (List.mem_append_left _ he)
  have h2 := srt_two (rt_of hr).p.srt fun e he => h e (List.mem_append_right _ he)
  have h3 := (rightK_iff.1 hr).2.2.2.2
  have h4 := came_len (k.now ++ k.kept)
  rw [h3, upTo_len, List.length_append] at h4
  omega
theorem nms_good {k : Dk} (h : Nms k) : Nms (goodK k) := by
  unfold goodK
  split
  · exact h
  · intro e he; simp [dk0] at he
theorem nms_append {k : Dk} (h : Nms k) {m b : List UInt8} (hm : m = nJ ∨ m = nK) : Nms (appendS k m b).1 := by
  have h := nms_good h
  unfold appendS
  generalize goodK k = d at *
  split
  · exact h
  cases hx : findK d.now m with
  | none =>
    dsimp only
    split
    · exact h
    refine nms_ordered fun e he => ?_
    rcases List.mem_append.1 he with h1 | h1
    · rcases mem_put.1 h1 with h2 | rfl
      · exact h e (List.mem_append_left _ h2)
      · exact hm
    · exact h e (List.mem_append_right _ h1)
  | some x =>
    dsimp only
    split
    · exact h
    · exact h
theorem nms_sync {k : Dk} (h : Nms k) {m : List UInt8} : Nms (syncS k m).1 := by
  have h := nms_good h
  unfold syncS
  generalize goodK k = d at *
  cases hx : findK d.now m <;> exact h
theorem nms_cut {k : Dk} (h : Nms k) {m : List UInt8} {n : Int} : Nms (cutS k m n).1 := by
  have h := nms_good h
  unfold cutS
  generalize goodK k = d at *
  cases hx : findK d.now m with
  | none => exact h
  | some x =>
    dsimp only
    split <;> exact h
theorem nms_remove {k : Dk} (h : Nms k) {m : List UInt8} : Nms (removeS k m).1 := by
  have h := nms_good h
  unfold removeS
  generalize goodK k = d at *
  cases hx : findK d.now m with
  | none => exact h
  | some x =>
    refine nms_ordered fun e he => ?_
    rcases List.mem_append.1 he with h1 | h1
    · exact h e (List.mem_append_left _ (mem_drop.1 h1).1)
    · exact h e (List.mem_append_right _ h1)
theorem nms_rename {k : Dk} (h : Nms k) {m to : List UInt8} (hm : to = nJ ∨ to = nK) : Nms (renameS k m to).1 := by
  have h := nms_good h
  unfold renameS
  generalize goodK k = d at *
  cases hx : findK d.now m with
  | none => exact h
  | some x =>
    dsimp only
    split
    · exact h
    refine nms_ordered fun e he => ?_
    rcases List.mem_append.1 he with h1 | h1
    · rcases mem_put.1 h1 with h2 | rfl
      · exact h e (List.mem_append_left _ (mem_drop.1 (mem_drop.1 h2).1).1)
      · exact hm
    · exact h e (List.mem_append_right _ h1)
theorem nms_syncDir {k : Dk} (h : Nms k) : Nms (syncDirS k) := by
  have h := nms_good h
  unfold syncDirS
  generalize goodK k = d at *
  refine nms_ordered fun e he => ?_
  rcases List.mem_append.1 he with h1 | h1
  · exact h e (List.mem_append_left _ h1)
  · exact h e (List.mem_append_left _ h1)
theorem nms_crash {k : Dk} (h : Nms k) (keep : List Int) (dir : Bool) : Nms (crashS k keep dir) := by
  have h := nms_good h
  have hl : ∀ e ∈ crashL k dir, e.name = nJ ∨ e.name = nK := by
    intro e he
    unfold crashL at he
    cases dir with
    | true => exact h e (List.mem_append_left _ he)
    | false => exact h e (List.mem_append_right _ he)
  intro e he
  have : e ∈ (crashS k keep dir).now := by
    rcases List.mem_append.1 he with h1 | h1
    · exact h1
    · exact h1
  obtain ⟨i, hi, rfl⟩ := List.mem_map.1 this
  have hi := List.mem_range.1 hi
  rw [List.getD_eq_getElem?_getD, List.getElem?_eq_getElem hi, Option.getD_some]
  have q := hl _ (List.getElem_mem hi)
  exact q
theorem nms_one {k : Dk} (h : Nms k) (c : ChR) (h1 : c.kind = 1 → c.name = nJ ∨ c.name = nK) (h3 : c.kind = 3 → c.to = nJ ∨ c.to = nK) : Nms (oneS c k).1 := by
  unfold oneS
  split
  · rename_i e; exact nms_append h (h1 e)
  split
  · exact nms_sync h
  split
  · rename_i e; exact nms_rename h (h3 e)
  split
  · exact nms_remove h
  split
  · exact nms_syncDir h
  · exact h
theorem nms_do {cs : List ChR} (h1 : ∀ c ∈ cs, (c.kind = 1 → c.name = nJ ∨ c.name = nK) ∧ (c.kind = 3 → c.to = nJ ∨ c.to = nK)) : ∀ (n : Nat) {k : Dk}, Nms k → Nms (doS cs n k).1 := by
  induction cs with
  | nil => intro n k h; exact h
  | cons c cs ih =>
    intro n k h
    cases n with
    | zero => exact h
    | succ n =>
      unfold doS
      split
      · exact ih (fun c hc => h1 c (List.mem_cons_of_mem _ hc)) n (nms_one h c (h1 c (by simp)).1 (h1 c (by simp)).2)
      · exact h
theorem do_right : ∀ (cs : List ChR) (n : Nat) {k : Dk}, rightK k = true → rightK (doS cs n k).1 = true
  | [], n, k, h => by cases n <;> exact h
  | c :: cs, 0, k, h => h
  | c :: cs, n + 1, k, h => by
    unfold doS
    split
    · exact do_right cs n (one_right c h)
    · exact h

/-! ### opening -/
theorem rec_open {A : List LeaseR → Prop} {k : Dk} (h : Rec A k) : ∃ zs, A zs ∧ (openJ k).2 = 0 ∧ Sd (openJ k).1 zs ∧ (Nms k → Nms (openJ k).1) ∧ zs = (readJ (getS k nJ).1).1 := by
  have hg := rec_get h
  have key : ∀ s : Dk, rightK s = true → ∀ b zs n, readJ b = (zs, n, 0) → fat nJ s.files s.now = ⟨b, b.length⟩ → Sd (syncDirS (removeS s nK).1) zs := by
    intro s hs b zs n hb hf
    have hq := (remove_fat hs (m := nK) (n := nJ) (by decide)).1
    have hrr := remove_right s nK
    have hsd := syncDir_fat hrr nJ
    exact ⟨syncDir_right _, b, n, by rw [hsd.1, hq, hf], by rw [hsd.2, hq, hf], hb⟩
  unfold openJ
  generalize hr : readJ (getS k nJ).1 = r at *
  obtain ⟨zs, n, e⟩ := r
  have hA : A zs := by have := hg.1; rwa [hr] at this
  have he : e = 0 ∨ e = 4 := by have := hg.2; rwa [hr] at this
  dsimp only
  refine ⟨zs, hA, ?_⟩
  by_cases h4 : e = 4
  · subst h4
    rw [if_pos rfl]
    obtain ⟨q, rfl, hq1, hq2⟩ := read_cut hr
    refine ⟨rfl, ?_, fun hn => nms_syncDir (nms_remove (nms_sync (nms_cut hn))), rfl⟩
    rw [fat_get h.r] at hq1 hq2 hr
    cases hx : findK k.now nJ with
    | none =>
      rw [fat_none hx] at hr
      rw [read_nil] at hr
      cases hr
    | some x =>
      rw [fat_some hx] at hq1 hq2
      have hin := find_in (right_inn h.r).1 hx
      have hcr := cut_right k nJ q
      rw [cut_at h.r hx hq1] at hcr ⊢
      dsimp only at hcr ⊢
      have hx2 : findK (setFile k x ⟨(fileAt k.files x).data.take q, (q : Int)⟩).now nJ = some x := hx
      have hf2 : fileAt (setFile k x ⟨(fileAt k.files x).data.take q, (q : Int)⟩).files x = ⟨(fileAt k.files x).data.take q, (q : Int)⟩ := fileAt_set hin.1 hin.2 _
      generalize setFile k x ⟨(fileAt k.files x).data.take q, (q : Int)⟩ = c at *
      have hin2 := find_in (right_inn hcr).1 hx2
      have hsr := sync_right c nJ
      rw [sync_at hcr hx2] at hsr ⊢
      dsimp only at hsr ⊢
      refine key _ hsr ((fileAt k.files x).data.take q) zs q hq2 ?_
      rw [(fat_setFile hcr hin2.1 hin2.2 _ nJ).1, if_pos hx2, hf2]
  · rcases he with h0 | h0
    · subst h0
      rw [if_neg h4, if_pos rfl]
      refine ⟨rfl, ?_, fun hn => nms_syncDir (nms_remove (nms_sync hn)), rfl⟩
      rw [fat_get h.r] at hr
      have hsr := sync_right k nJ
      cases hx : findK k.now nJ with
      | none =>
        rw [fat_none hx] at hr
        rw [sync_no h.r hx] at hsr ⊢
        exact key k h.r [] zs n hr (by rw [fat_none hx]; rfl)
      | some x =>
        rw [fat_some hx] at hr
        have hin := find_in (right_inn h.r).1 hx
        rw [sync_at h.r hx] at hsr ⊢
        refine key _ hsr _ zs n hr ?_
        rw [(fat_setFile h.r hin.1 hin.2 _ nJ).1, if_pos hx]
    · exact absurd h0 h4

/-! ### adding -/
theorem add_eq {k : Dk} {xs : List LeaseR} (h : Sd k xs) {l : LeaseR} (hl : rightL l = true) : addJ k l =
    ([⟨1, nJ, [], frameB (recB l)⟩, ⟨2, nJ, [], []⟩] ++ (if findI k.now nJ < 0 ∨ findI k.now nJ ≠ findI k.kept nJ then [⟨5, [], [], []⟩] else []), 0) := by
  obtain ⟨n, hn⟩ := h.read
  unfold addJ
  rw [hl, hn, good_id h.c.r]
  rfl
theorem okF_more {f : FileD} (hok : fileOk f = true) {xs : List LeaseR} (hf : okF (fun z => z = xs) f) {n : Int} (hn : readJ f.data = (xs, n, 0)) {l : LeaseR} (hl : rightL l = true) : okF (fun z => z = xs ∨ z = xs ++ [l]) ⟨f.data ++ frameB (recB l), f.safe⟩ := by
  have h := fileOk_iff.1 hok
  intro m h1 h2
  dsimp only at h1 h2 ⊢
  simp only [List.length_append] at h2
  by_cases hm : m ≤ f.data.length
  · rw [List.take_append_of_le_length hm]
    have := hf m h1 hm
    exact ⟨.inl this.1, this.2⟩
  · obtain ⟨j, rfl⟩ := Nat.le.dest (show f.data.length ≤ m by omega)
    rw [List.take_length_add_append]
    by_cases hj : j < (frameB (recB l)).length
    · have := (read_more hn hl [] j).1 hj
      exact ⟨.inl this.1, this.2⟩
    · rw [List.take_of_length_le (by omega)]
      have e := (read_more hn hl [] j).2
      exact ⟨.inr (by rw [e]), .inl (by rw [e])⟩
def oneMore (xs : List LeaseR) (l : LeaseR) : List LeaseR → Prop := fun z => z = xs ∨ z = xs ++ [l]
/-- What the changes bring about by which a lease is kept. -/
structure Ran (k : Dk) (xs : List LeaseR) (l : LeaseR) (cs : List ChR) (n : Nat) (r : Dk × Nat) : Prop where
  c : Rec (oneMore xs l) r.1
  all : r.2 = cs.length → Sd r.1 (xs ++ [l])
  z : r.2 = 0 → r.1 = k
  le : r.2 ≤ n ∧ r.2 ≤ cs.length
  stop : r.2 < cs.length → r.2 = 0 ∨ r.2 = n
  room : k.files.length < 20 → (fat nJ k.files k.now).data.length ≤ 19000 → r.2 = min n cs.length
  nms : Nms k → Nms r.1
theorem frame_few {l : LeaseR} (hl : rightL l = true) : (frameB (recB l)).length ≤ 274 := by
  have := rec_len hl
  rw [frame_len]
  omega
theorem add_run {k : Dk} {xs : List LeaseR} (h : Sd k xs) {l : LeaseR} (hl : rightL l = true) (n : Nat) : Ran k xs l (addJ k l).1 n (doS (addJ k l).1 n k) := by
  rw [add_eq h hl]
  have hr := h.c.r
  have hfew := frame_few hl
  obtain ⟨w, hw⟩ := h.read
  rw [fat_get hr] at hw
  have hok := fat_ok hr nJ
  have base : Rec (oneMore xs l) k := h.c.mono fun _ h => .inl h
  have hnm : ∀ (t : Bool) (n : Nat), Nms k → Nms (doS ([⟨1, nJ, [], frameB (recB l)⟩, ⟨2, nJ, [], []⟩] ++ (if t = true then [⟨5, [], [], []⟩] else [])) n k).1 := by
    intro t n hk
    refine nms_do (fun c hc => ?_) n hk
    have : c = ⟨1, nJ, [], frameB (recB l)⟩ ∨ c = ⟨2, nJ, [], []⟩ ∨ c = ⟨5, [], [], []⟩ := by
      cases t <;> simp at hc
      · rcases hc with h | h
        · exact .inl h
        · exact .inr (.inl h)
      · rcases hc with h | h | h
        · exact .inl h
        · exact .inr (.inl h)
        · exact .inr (.inr h)
    rcases this with rfl | rfl | rfl
    · exact ⟨fun _ => .inl rfl, fun h => by simp at h⟩
    · exact ⟨fun h => by simp at h, fun h => by simp at h⟩
    · exact ⟨fun h => by simp at h, fun h => by simp at h⟩
  generalize ht : decide (findI k.now nJ < 0 ∨ findI k.now nJ ≠ findI k.kept nJ) = t
  have e : (if findI k.now nJ < 0 ∨ findI k.now nJ ≠ findI k.kept nJ then [(⟨5, [], [], []⟩ : ChR)] else []) = if t = true then [(⟨5, [], [], []⟩ : ChR)] else [] := by rw [← ht]; simp only [decide_eq_true_eq]
  rw [e]
  dsimp only
  have hnm := hnm t
  have hlen : ([(⟨1, nJ, [], frameB (recB l)⟩ : ChR), ⟨2, nJ, [], []⟩] ++ (if t = true then [(⟨5, [], [], []⟩ : ChR)] else [])).length = if t = true then 3 else 2 := by cases t <;> rfl
  have zero : n = 0 → doS ([⟨1, nJ, [], frameB (recB l)⟩, ⟨2, nJ, [], []⟩] ++ (if t = true then [(⟨5, [], [], []⟩ : ChR)] else [])) n k = (k, 0) := fun e => by subst e; rfl
  by_cases hn0 : n = 0
  · have hnm := hnm n
    rw [zero hn0] at hnm ⊢
    exact ⟨base, fun h => by rw [hlen] at h; cases t <;> simp at h, fun _ => rfl, ⟨Nat.zero_le _, Nat.zero_le _⟩, fun _ => .inl rfl, fun _ _ => by simp [hn0], hnm⟩
  by_cases ha : (appendS k nJ (frameB (recB l))).2 = 0
  · obtain ⟨n, rfl⟩ : ∃ m, n = m + 1 := ⟨n - 1, by omega⟩
    obtain ⟨f1, f2, f3, _⟩ := append_fat hr (m := nJ) (by decide) ha
    obtain ⟨x, hx⟩ := append_find hr ha
    have har := append_right k nJ (frameB (recB l))
    have hmore := okF_more hok.1 h.c.n hw hl
    have hrec1 : Rec (oneMore xs l) (appendS k nJ (frameB (recB l))).1 := by
      refine ⟨har, by rw [f1]; exact hmore, ?_⟩
      rcases f2 with f2 | ⟨_, f2⟩
      · rw [f2]; exact okF_mono (fun _ h => .inl h) h.c.p
      · rw [f2]; exact hmore
    have hrec2 := rec_sync hrec1 nJ
    have hin := find_in (right_inn har).1 hx
    have hs := sync_at har hx
    have hsr := sync_right (appendS k nJ (frameB (recB l))).1 nJ
    have hnewd : (fileAt (appendS k nJ (frameB (recB l))).1.files x).data = (fat nJ k.files k.now).data ++ frameB (recB l) := by
      rw [fat_some hx] at f1
      rw [f1]
    have hrd := (read_more hw hl [] 0).2
    have g1 : fat nJ (syncS (appendS k nJ (frameB (recB l))).1 nJ).1.files (syncS (appendS k nJ (frameB (recB l))).1 nJ).1.now = ⟨(fat nJ k.files k.now).data ++ frameB (recB l), ((fat nJ k.files k.now).data ++ frameB (recB l)).length⟩ := by
      rw [hs]
      show fat nJ (setFile _ _ _).files (setFile _ _ _).now = _
      rw [(fat_setFile har hin.1 hin.2 _ nJ).1, if_pos hx, hnewd]
    have okn : okF (fun z => z = xs ++ [l]) ⟨(fat nJ k.files k.now).data ++ frameB (recB l), ((fat nJ k.files k.now).data ++ frameB (recB l)).length⟩ := okF_synced ⟨by rw [hrd], by rw [hrd]; exact .inl rfl⟩
    have hkept : t = false → fat nJ (syncS (appendS k nJ (frameB (recB l))).1 nJ).1.files (syncS (appendS k nJ (frameB (recB l))).1 nJ).1.kept = ⟨(fat nJ k.files k.now).data ++ frameB (recB l), ((fat nJ k.files k.now).data ++ frameB (recB l)).length⟩ := by
      intro hf
      rw [← ht, decide_eq_false_iff_not] at hf
      cases hy : findK k.now nJ with
      | none => simp [findI, hy] at hf
      | some y =>
        have hz : findK k.kept nJ = some y := by
          cases hz : findK k.kept nJ with
          | none =>
            have := (find_in (right_inn hr).1 hy).1
            simp only [findI, hy, hz] at hf
            omega
          | some z =>
            simp only [findI, hy, hz] at hf
            congr 1
            omega
        have e3 := f3 y hy
        rw [e3] at hx
        have hxy : x = y := by
          have : findK k.now nJ = some x := hx
          rw [hy] at this
          exact (Option.some.inj this).symm
        subst hxy
        have hz2 : findK (appendS k nJ (frameB (recB l))).1.kept nJ = some x := by rw [e3]; exact hz
        rw [hs]
        show fat nJ (setFile _ _ _).files (setFile _ _ _).kept = _
        rw [(fat_setFile har hin.1 hin.2 _ nJ).2, if_pos hz2, hnewd]
    have c1 : oneS ⟨1, nJ, [], frameB (recB l)⟩ k = appendS k nJ (frameB (recB l)) := by simp [oneS]
    have c2 : oneS ⟨2, nJ, [], []⟩ (appendS k nJ (frameB (recB l))).1 = syncS (appendS k nJ (frameB (recB l))).1 nJ := by simp [oneS]
    have e2 : (syncS (appendS k nJ (frameB (recB l))).1 nJ).2 = 0 := by rw [hs]
    have hnm := hnm (n + 1)
    have hz1 : ∀ d : Dk, (syncS (appendS k nJ (frameB (recB l))).1 nJ).1 = d → fat nJ d.files d.now = ⟨(fat nJ k.files k.now).data ++ frameB (recB l), ((fat nJ k.files k.now).data ++ frameB (recB l)).length⟩ := fun d e => e ▸ g1
    simp only [List.cons_append, List.nil_append, doS, c1, c2, ha, e2, if_true] at hnm ⊢
    cases n with
    | zero =>
      simp only [doS] at hnm ⊢
      refine ⟨hrec1, fun h => ?_, fun h => by simp at h, ⟨by simp, by cases t <;> simp⟩, fun _ => .inr rfl, fun _ _ => by cases t <;> simp, hnm⟩
      cases t <;> simp at h
    | succ n =>
      simp only [doS, c2, e2, if_true] at hnm ⊢
      cases t with
      | false =>
        simp only [doS, Bool.false_eq_true, if_false] at hnm ⊢
        refine ⟨hrec2, fun _ => ⟨hsr, _, _, g1, hkept rfl, hrd⟩, fun h => by simp at h, ⟨by omega, by simp⟩, fun h => by simp at h, fun _ _ => by simp <;> omega, hnm⟩
      | true =>
        have c3 : oneS ⟨5, [], [], []⟩ (syncS (appendS k nJ (frameB (recB l))).1 nJ).1 = (syncDirS (syncS (appendS k nJ (frameB (recB l))).1 nJ).1, 0) := by simp [oneS]
        cases n with
        | zero =>
          simp only [doS, if_true] at hnm ⊢
          exact ⟨hrec2, fun h => by simp at h, fun h => by simp at h, ⟨by simp, by simp⟩, fun _ => .inr rfl, fun _ _ => by simp, hnm⟩
        | succ n =>
          simp only [doS, if_true, c3] at hnm ⊢
          have hd := syncDir_fat hsr nJ
          refine ⟨?_, fun _ => ⟨syncDir_right _, _, _, by rw [hd.1]; exact g1, by rw [hd.2]; exact g1, hrd⟩, fun h => by simp at h, ⟨by simp <;> omega, by simp⟩, fun h => by simp at h, fun _ _ => by simp <;> omega, hnm⟩
          exact (rec_syncDir hsr (by rw [g1]; exact okn)).mono fun _ h => .inr h
  · obtain ⟨n, rfl⟩ : ∃ m, n = m + 1 := ⟨n - 1, by omega⟩
    have c1 : oneS ⟨1, nJ, [], frameB (recB l)⟩ k = appendS k nJ (frameB (recB l)) := by simp [oneS]
    have e : doS ([⟨1, nJ, [], frameB (recB l)⟩, ⟨2, nJ, [], []⟩] ++ (if t = true then [(⟨5, [], [], []⟩ : ChR)] else [])) (n + 1) k = (k, 0) := by
      simp only [List.cons_append, List.nil_append, doS, c1, ha, if_false]
    rw [e]
    refine ⟨base, fun h => by rw [hlen] at h; cases t <;> simp at h, fun _ => rfl, ⟨Nat.zero_le _, Nat.zero_le _⟩, fun _ => .inl rfl, fun h1 h2 => ?_, fun h => h⟩
    exact absurd (append_room hr (m := nJ) (by decide) h1 (by omega)) ha
theorem sd_nil : Sd dk0 [] := ⟨right0, [], 0, rfl, rfl, rfl⟩
theorem nms_nil : Nms dk0 := by intro e he; simp [dk0] at he
/-- How many bytes a journal has. -/
theorem Sd.few {k : Dk} {xs : List LeaseR} (h : Sd k xs) : (fat nJ k.files k.now).data.length ≤ 274 * xs.length ∧ ∀ l ∈ xs, rightL l = true := by
  obtain ⟨n, hn⟩ := h.read
  rw [fat_get h.c.r] at hn
  obtain ⟨h1, h2, h3⟩ := read_right hn (.inl rfl)
  have := read_whole hn
  exact ⟨by omega, h1⟩
end Go.Proofs.YtkbidfohcanijaaGreat
