/- Making the journal short, in plain terms: other leases are put in its place. -/
import Derived.Test.YtkbidfohcanijaaGreatJrnR
import Derived.Test.YtkbidfohcanijaaGreatLastP
namespace Go.Proofs.YtkbidfohcanijaaGreat
open BoEng Go
set_option maxRecDepth 100000
set_option linter.unusedSimpArgs false
set_option linter.unusedVariables false

def bytesL (ls : List LeaseR) : List UInt8 := (ls.map fun l => frameB (recB l)).flatten
theorem bytesL_snoc (ls : List LeaseR) (l : LeaseR) : bytesL (ls ++ [l]) = bytesL ls ++ frameB (recB l) := by simp [bytesL]
theorem read_bytes {ls : List LeaseR} : (∀ l ∈ ls, rightL l = true) → readJ (bytesL ls) = (ls, ((bytesL ls).length : Int), 0) := by
  induction ls using lastL_ind with
  | h0 => intro _; rfl
  | hs ls l ih =>
    intro h
    have ih := ih fun x hx => h x (by simp [hx])
    rw [bytesL_snoc]
    exact (read_more ih (h l (by simp)) [] 0).2
theorem bytes_few {ls : List LeaseR} : (∀ l ∈ ls, rightL l = true) → (bytesL ls).length ≤ 274 * ls.length := by
  induction ls using lastL_ind with
  | h0 => intro _; simp [bytesL]
  | hs ls l ih =>
    intro h
    have ih := ih fun x hx => h x (by simp [hx])
    have := frame_few (h l (by simp))
    rw [bytesL_snoc, List.length_append, List.length_append]
    simp only [List.length_cons, List.length_nil]
    omega
/-- The changes that put leases in the journal's place. -/
def putC (B : List UInt8) : List ChR := [⟨1, nK, [], B⟩, ⟨2, nK, [], []⟩, ⟨3, nK, nJ, []⟩, ⟨5, [], [], []⟩]
def changesC (k : Dk) (ls : List LeaseR) : List ChR × Int :=
  if ls.all rightL = false then ([], 1) else if 20000 < (bytesL ls).length then ([], 3)
  else ((if (getS k nK).2 = 0 then [⟨4, nK, [], []⟩] else []) ++ putC (bytesL ls), 0)
def oneOr (xs ys : List LeaseR) : List LeaseR → Prop := fun z => z = xs ∨ z = ys
structure CRan (xs ys : List LeaseR) (cs : List ChR) (n : Nat) (r : Dk × Nat) : Prop where
  c : Rec (oneOr xs ys) r.1
  all : r.2 = cs.length → Sd r.1 ys
  num : r.2 = min n cs.length
  nms : Nms r.1
theorem put_run {k : Dk} {xs : List LeaseR} (h : Sd k xs) (hn : Nms k) (hno : findK k.now nK = none) {ys : List LeaseR} (hy : ∀ l ∈ ys, rightL l = true) (hB : (bytesL ys).length ≤ 20000) (n : Nat) : CRan xs ys (putC (bytesL ys)) n (doS (putC (bytesL ys)) n k) := by
  have hr := h.c.r
  have hrd := read_bytes hy
  generalize bytesL ys = B at *
  have hnm : ∀ n, Nms (doS (putC B) n k).1 := fun n => nms_do (fun c hc => by
    simp only [putC, List.mem_cons, List.not_mem_nil, or_false] at hc
    rcases hc with rfl | rfl | rfl | rfl
    · exact ⟨fun _ => .inr rfl, fun h => by simp at h⟩
    · exact ⟨fun h => by simp at h, fun h => by simp at h⟩
    · exact ⟨fun h => by simp at h, fun _ => .inl rfl⟩
    · exact ⟨fun h => by simp at h, fun h => by simp at h⟩) n hn
  have base : Rec (oneOr xs ys) k := h.c.mono fun _ h => .inl h
  have hlen : (putC B).length = 4 := rfl
  have hk0 : fat nK k.files k.now = ⟨[], 0⟩ := fat_none hno
  have ha : (appendS k nK B).2 = 0 := append_room hr (by decide) (by have := nms_few hr hn; omega) (by rw [hk0]; simpa using hB)
  obtain ⟨f1, _, _, f4⟩ := append_fat hr (m := nK) (b := B) (by decide) ha
  obtain ⟨g1, g2⟩ := f4 nJ (by decide) hno
  obtain ⟨x, hx⟩ := append_find hr ha
  have har := append_right k nK B
  rw [hk0] at f1
  have f1 : fat nK (appendS k nK B).1.files (appendS k nK B).1.now = ⟨B, 0⟩ := f1
  have c1 : oneS ⟨1, nK, [], B⟩ k = appendS k nK B := by simp [oneS]
  have hrec1 : Rec (oneOr xs ys) (appendS k nK B).1 := ⟨har, by rw [g1]; exact base.n, by rw [g2]; exact base.p⟩
  generalize appendS k nK B = a at *
  have hin := find_in (right_inn har).1 hx
  have hs := sync_at har hx
  have hsr := sync_right a.1 nK
  have hrec2 := rec_sync hrec1 nK
  have c2 : oneS ⟨2, nK, [], []⟩ a.1 = syncS a.1 nK := by simp [oneS]
  have e2 : (syncS a.1 nK).2 = 0 := by rw [hs]
  have hdat : (fileAt a.1.files x).data = B := by
    rw [fat_some hx] at f1
    rw [f1]
  have hsx : findK (syncS a.1 nK).1.now nK = some x := by rw [hs]; exact hx
  have hsf : fileAt (syncS a.1 nK).1.files x = ⟨B, B.length⟩ := by
    rw [hs]
    show fileAt (a.1.files.set x.toNat _) x = _
    rw [fileAt_set hin.1 hin.2, hdat]
  generalize syncS a.1 nK = s at *
  have hrr := rename_right s.1 nK nJ
  have hren : renameS s.1 nK nJ = (orderedS ⟨s.1.files, putK (dropK (dropK s.1.now nK) nJ) nJ x, s.1.kept⟩, 0) := by
    unfold renameS
    rw [good_id hsr, hsx]
    dsimp only
    rw [if_neg (by decide)]
  have c3 : oneS ⟨3, nK, nJ, []⟩ s.1 = renameS s.1 nK nJ := by simp [oneS]
  have e3 : (renameS s.1 nK nJ).2 = 0 := by rw [hren]
  have hrt := rt_of hsr
  have okB : okF (fun z => z = ys) ⟨B, B.length⟩ := okF_synced ⟨by rw [hrd], by rw [hrd]; exact .inl rfl⟩
  have hfj : fat nJ (renameS s.1 nK nJ).1.files (renameS s.1 nK nJ).1.now = ⟨B, B.length⟩ := by
    rw [hren, fat_onow]
    dsimp only
    rw [fat_some (x := x) (by rw [find_put ((nm_drop (nm_drop hrt.n nK) nJ).srt) find_drop_same, if_pos rfl]), hsf]
  have hrec3 : Rec (oneOr xs ys) (renameS s.1 nK nJ).1 := by
    refine ⟨hrr, by rw [hfj]; exact okF_mono (fun _ h => .inr h) okB, ?_⟩
    rw [hren, fat_okept]
    exact hrec2.p
  generalize renameS s.1 nK nJ = r at *
  have c4 : oneS ⟨5, [], [], []⟩ r.1 = (syncDirS r.1, 0) := by simp [oneS]
  have hd := syncDir_fat hrr nJ
  have hsd : Sd (syncDirS r.1) ys := ⟨syncDir_right _, B, _, by rw [hd.1]; exact hfj, by rw [hd.2]; exact hfj, hrd⟩
  have hnm := hnm n
  match n, hnm with
  | 0, hnm => exact ⟨base, fun h => by simp [putC, doS] at h, by simp [putC, doS], hn⟩
  | 1, hnm =>
    simp only [putC, doS, c1, ha, if_true] at hnm ⊢
    exact ⟨hrec1, fun h => by simp at h, by simp, hnm⟩
  | 2, hnm =>
    simp only [putC, doS, c1, ha, c2, e2, if_true] at hnm ⊢
    exact ⟨hrec2, fun h => by simp at h, by simp, hnm⟩
  | 3, hnm =>
    simp only [putC, doS, c1, ha, c2, e2, c3, e3, if_true] at hnm ⊢
    exact ⟨hrec3, fun h => by simp at h, by simp, hnm⟩
  | n + 4, hnm =>
    simp only [putC, doS, c1, ha, c2, e2, c3, e3, c4, if_true] at hnm ⊢
    exact ⟨hsd.c.mono fun _ h => .inr h, fun _ => hsd, by simp, hnm⟩
theorem sd_remove {k : Dk} {xs : List LeaseR} (h : Sd k xs) : Sd (removeS k nK).1 xs := by
  obtain ⟨hr, b, n, h1, h2, h3⟩ := h
  have q := remove_fat hr (m := nK) (n := nJ) (by decide)
  exact ⟨remove_right _ _, b, n, by rw [q.1]; exact h1, by rw [q.2]; exact h2, h3⟩
theorem remove_no {k : Dk} (h : rightK k = true) : findK (removeS k nK).1.now nK = none := by
  unfold removeS
  rw [good_id h]
  cases hx : findK k.now nK with
  | none => exact hx
  | some x =>
    show findK ((dropK k.now nK).map (renE _)) nK = none
    rw [find_ren, find_drop_same]
    rfl
theorem clean_eq {k : Dk} {ys : List LeaseR} (hy : ∀ l ∈ ys, rightL l = true) (hB : (bytesL ys).length ≤ 20000) : changesC k ys = ((if (getS k nK).2 = 0 then [⟨4, nK, [], []⟩] else []) ++ putC (bytesL ys), 0) := by
  unfold changesC
  rw [if_neg (by rw [List.all_eq_true.2 hy]; simp), if_neg (by omega)]
theorem clean_run {k : Dk} {xs : List LeaseR} (h : Sd k xs) (hn : Nms k) {ys : List LeaseR} (hy : ∀ l ∈ ys, rightL l = true) (hB : (bytesL ys).length ≤ 20000) (n : Nat) :
    CRan xs ys (changesC k ys).1 n (doS (changesC k ys).1 n k) := by
  rw [clean_eq hy hB]
  have hr := h.c.r
  by_cases hg : (getS k nK).2 = 0
  · rw [if_pos hg]
    dsimp only [List.cons_append, List.nil_append]
    have c0 : oneS ⟨4, nK, [], []⟩ k = removeS k nK := by simp [oneS]
    have e0 : (removeS k nK).2 = 0 := by
      unfold getS at hg
      unfold removeS
      cases hx : findK (goodK k).now nK with
      | none => rw [hx] at hg; simp at hg
      | some x => rfl
    cases n with
    | zero => exact ⟨h.c.mono fun _ h => .inl h, fun h => by simp [doS] at h, by simp [doS], hn⟩
    | succ n =>
      have q := put_run (sd_remove h) (nms_remove hn) (remove_no hr) hy hB n
      simp only [doS, c0, e0, if_true]
      refine ⟨q.c, fun h => q.all ?_, ?_, q.nms⟩
      · simp only [List.length_cons] at h
        omega
      · have := q.num
        simp only [List.length_cons]
        omega
  · rw [if_neg hg]
    have hno : findK k.now nK = none := by
      unfold getS at hg
      rw [good_id hr] at hg
      cases hx : findK k.now nK with
      | none => rfl
      | some x => rw [hx] at hg; simp at hg
    exact put_run h hn hno hy hB n
theorem changes_few (k : Dk) (ls : List LeaseR) : (changesC k ls).1.length ≤ 5 ∧ ∀ c ∈ (changesC k ls).1, ChOk c := by
  unfold changesC
  split
  · exact ⟨by simp, by simp⟩
  split
  · exact ⟨by simp, by simp⟩
  rename_i hB
  have hp : ∀ c ∈ putC (bytesL ls), ChOk c := by
    intro c hc
    simp only [putC, List.mem_cons, List.not_mem_nil, or_false] at hc
    rcases hc with rfl | rfl | rfl | rfl
    · exact ⟨by simp, by simp, by dsimp only; omega⟩
    · exact ⟨by simp, by simp, by simp⟩
    · exact ⟨by simp, by simp, by simp⟩
    · exact ⟨by simp, by simp, by simp⟩
  refine ⟨by split <;> simp [putC], fun c hc => ?_⟩
  rcases List.mem_append.1 hc with h | h
  · split at h
    · simp at h; subst h; exact ⟨by simp, by simp, by simp⟩
    · simp at h
  · exact hp c h
end Go.Proofs.YtkbidfohcanijaaGreat
