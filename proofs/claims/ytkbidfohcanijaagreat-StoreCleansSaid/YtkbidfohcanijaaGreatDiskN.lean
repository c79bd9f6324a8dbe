/- Disks: what the laws of chapter 8 ask, in plain terms. -/
import Derived.Test.YtkbidfohcanijaaGreatDiskM
namespace Go.Proofs.YtkbidfohcanijaaGreat
open BoEng Go
set_option maxRecDepth 100000
set_option linter.unusedSimpArgs false
set_option linter.unusedVariables false

theorem fileAt_set {l : List FileD} {x : Int} (h0 : 0 ≤ x) (h1 : x < l.length) (f : FileD) : fileAt (l.set x.toNat f) x = f := by
  have : x.toNat < l.length := by omega
  simp [fileAt, List.getD_eq_getElem?_getD, this]
theorem fileAt_ne {l : List FileD} {x y : Int} (h0 : 0 ≤ x) (h1 : 0 ≤ y) (h : y ≠ x) (f : FileD) : fileAt (l.set x.toNat f) y = fileAt l y := by
  have : x.toNat ≠ y.toNat := by omega
  simp [fileAt, List.getD_eq_getElem?_getD, this]
theorem fileAt_app {l m : List FileD} {x : Int} (h0 : 0 ≤ x) (h1 : x < l.length) : fileAt (l ++ m) x = fileAt l x := by
  have : x.toNat < l.length := by omega
  simp [fileAt, List.getD_eq_getElem?_getD, List.getElem?_append_left this]
theorem fileAt_snoc {l : List FileD} {f : FileD} : fileAt (l ++ [f]) (l.length : Int) = f := by
  simp [fileAt, List.getD_eq_getElem?_getD]

/-! ### cuts -/
theorem cuts_1 (k : Dk) (name : List UInt8) (n : Int) (h : (cutS k name n).2 = 0) :
    0 ≤ n ∧ n ≤ (getS k name).1.length ∧ getS (crashS (cutS k name n).1 [] true) name = ((getS k name).1.take n.toNat, 0) := by
  have hrt := cut_right k name n
  have hg := good_right k
  unfold cutS at h hrt ⊢
  unfold getS
  generalize goodK k = d at *
  have hr := rt_of hg
  cases hx : findK d.now name with
  | none => rw [hx] at h; simp at h
  | some x =>
    rw [hx] at h hrt
    dsimp only at h hrt ⊢
    by_cases hc : n < 0 ∨ n > (fileAt d.files x).data.length
    · rw [if_pos hc] at h; simp at h
    · rw [if_neg hc] at hrt ⊢
      have hm := (find_iff hr.n.srt).1 hx
      have hin := hr.n.inn _ hm
      refine ⟨by omega, by omega, ?_⟩
      obtain ⟨q, hq, hqn⟩ := crash_at hrt (keep := []) (dir := true) (n := name) (x := x) hm
      have := hqn rfl
      subst this
      have e := getS (crashS (setFile d x ⟨(fileAt d.files x).data.take n.toNat, n⟩) [] true) name
      have hf : fileAt (setFile d x ⟨(fileAt d.files x).data.take n.toNat, n⟩).files x = ⟨(fileAt d.files x).data.take n.toNat, n⟩ := fileAt_set hin.1 hin.2 _
      rw [hf] at hq
      have hl : leftN ⟨(fileAt d.files x).data.take n.toNat, n⟩ none = n := rfl
      rw [hl] at hq
      unfold getS at hq
      rw [hq]
      simp only [List.take_take, Nat.min_self]
theorem cuts_2 (k : Dk) (name : List UInt8) (n : Int) (h : (removeS k name).2 ≠ 0) : (removeS k name).2 = 5 ∧ (cutS k name n).2 ≠ 0 := by
  unfold removeS at h ⊢
  unfold cutS
  cases hx : findK (goodK k).now name with
  | none => simp
  | some x => rw [hx] at h; simp at h
theorem cuts_3 (k : Dk) (name : List UInt8) (h : (removeS k name).2 = 0) : getS (removeS k name).1 name = ([], 5) := by
  have hrt := remove_right k name
  unfold removeS at h hrt ⊢
  cases hx : findK (goodK k).now name with
  | none => rw [hx] at h; simp at h
  | some x =>
    rw [hx] at hrt
    exact get_no hrt (ord_no fun e he => (mem_drop.1 he).2)
/-- A file that is made anew has what was put. -/
theorem fresh_get {k : Dk} (h : rightK k = true) {name b : List UInt8} (hn : findK k.now name = none) (h0 : (appendS k name b).2 = 0) : getS (appendS k name b).1 name = (b, 0) := by
  have hrt := append_right k name b
  unfold appendS at h0 hrt ⊢
  rw [good_id h] at h0 hrt ⊢
  by_cases hf : fairN name = false
  · rw [if_pos hf] at h0; simp at h0
  rw [if_neg hf, hn] at h0 hrt ⊢
  dsimp only at h0 hrt ⊢
  by_cases hc : k.files.length ≥ 20 ∨ b.length > 20000
  · rw [if_pos hc] at h0; simp at h0
  rw [if_neg hc] at hrt ⊢
  obtain ⟨q1, q2⟩ := ord_now (k := ⟨k.files ++ [⟨b, 0⟩], putK k.now name k.files.length, k.kept⟩) (n := name) (x := (k.files.length : Int)) (mem_put.2 (.inr rfl))
  rw [get_at hrt q1, ord_file q2]
  show ((fileAt (k.files ++ [⟨b, 0⟩]) (k.files.length : Int)).data, (0 : Int)) = _
  rw [fileAt_snoc]
theorem cuts_4 (k : Dk) (name b : List UInt8) (h : (removeS k name).2 = 0) (h2 : (appendS (removeS k name).1 name b).2 = 0) : (getS (appendS (removeS k name).1 name b).1 name).1 = b := by
  have hrt := remove_right k name
  have hno : findK (removeS k name).1.now name = none := by
    have h3 := cuts_3 k name h
    cases hx : findK (removeS k name).1.now name with
    | none => rfl
    | some x =>
      rw [get_at hrt ((find_iff (rt_of hrt).n.srt).1 hx)] at h3
      simp at h3
  rw [fresh_get hrt hno h2]

/-! ### what lasts -/
structure Lst (was name : List UInt8) (x : Dk) : Prop where
  r : rightK x = true
  p : ∃ p, (⟨name, p⟩ : Ent) ∈ x.now ∧ (⟨name, p⟩ : Ent) ∈ x.kept ∧ (was.length : Int) ≤ (fileAt x.files p).safe ∧ was <+: (fileAt x.files p).data
theorem append_has (k : Dk) (name b : List UInt8) (h : (appendS k name b).2 = 0) : ∃ p, (⟨name, p⟩ : Ent) ∈ (appendS k name b).1.now := by
  have hg := good_right k
  unfold appendS at h ⊢
  generalize goodK k = d at *
  have hr := rt_of hg
  by_cases hf : fairN name = false
  · rw [if_pos hf] at h; simp at h
  rw [if_neg hf] at h ⊢
  cases hx : findK d.now name with
  | none =>
    rw [hx] at h
    dsimp only at h ⊢
    by_cases hc : d.files.length ≥ 20 ∨ b.length > 20000
    · rw [if_pos hc] at h; simp at h
    rw [if_neg hc]
    exact ⟨_, (ord_now (mem_put.2 (.inr rfl))).1⟩
  | some x =>
    rw [hx] at h
    dsimp only at h ⊢
    by_cases hc : (fileAt d.files x).data.length + b.length > 20000
    · rw [if_pos hc] at h; simp at h
    rw [if_neg hc]
    exact ⟨x, (find_iff hr.n.srt).1 hx⟩
theorem lasts_1 (k : Dk) (name b : List UInt8) (h : (appendS k name b).2 = 0) : (syncS (appendS k name b).1 name).2 = 0 ∧ (getS (syncDirS (syncS (appendS k name b).1 name).1) name).2 = 0 ∧
    Lst (getS (syncDirS (syncS (appendS k name b).1 name).1) name).1 name (syncDirS (syncS (appendS k name b).1 name).1) := by
  obtain ⟨p, hp⟩ := append_has k name b h
  have h1 := append_right k name b
  generalize (appendS k name b).1 = x at *
  have hr := rt_of h1
  have hx := (find_iff hr.n.srt).2 hp
  have hs : syncS x name = (setFile x p ⟨(fileAt x.files p).data, (fileAt x.files p).data.length⟩, 0) := by
    unfold syncS
    rw [good_id h1, hx]
  have h2 := sync_right x name
  rw [hs] at h2 ⊢
  have hin := hr.n.inn _ hp
  have hf : fileAt (setFile x p ⟨(fileAt x.files p).data, (fileAt x.files p).data.length⟩).files p = ⟨(fileAt x.files p).data, (fileAt x.files p).data.length⟩ := fileAt_set hin.1 hin.2 _
  have hn2 : (⟨name, p⟩ : Ent) ∈ (setFile x p ⟨(fileAt x.files p).data, (fileAt x.files p).data.length⟩).now := hp
  dsimp only at h2 ⊢
  generalize setFile x p ⟨(fileAt x.files p).data, (fileAt x.files p).data.length⟩ = y at *
  have h3 := syncDir_right y
  have hsd : syncDirS y = orderedS ⟨y.files, y.now, y.now⟩ := by unfold syncDirS; rw [good_id h2]
  rw [hsd] at h3 ⊢
  obtain ⟨q1, q2⟩ := ord_now (k := ⟨y.files, y.now, y.now⟩) hn2
  obtain ⟨q3, _⟩ := ord_kept (k := ⟨y.files, y.now, y.now⟩) hn2
  have q4 := ord_file q2
  have hfy : fileAt (⟨y.files, y.now, y.now⟩ : Dk).files p = ⟨(fileAt x.files p).data, (fileAt x.files p).data.length⟩ := hf
  rw [hfy] at q4
  have q5 := get_at h3 q1
  rw [q4] at q5
  rw [q5]
  refine ⟨rfl, rfl, h3, _, q1, q3, ?_, ?_⟩
  · rw [q4]; exact Int.le_refl _
  · rw [q4]; exact List.prefix_refl _
theorem lasts_2 {was name : List UInt8} {x : Dk} (h : Lst was name x) (nm b : List UInt8) : Lst was name (appendS x nm b).1 := by
  refine ⟨append_right x nm b, ?_⟩
  obtain ⟨hr0, p, hp1, hp2, hs, hd⟩ := h
  have hrt := rt_of hr0
  have hin := hrt.n.inn _ hp1
  unfold appendS
  rw [good_id hr0]
  by_cases hf : fairN nm = false
  · rw [if_pos hf]
    exact ⟨p, hp1, hp2, hs, hd⟩
  rw [if_neg hf]
  cases hx : findK x.now nm with
  | none =>
    dsimp only
    by_cases hc : x.files.length ≥ 20 ∨ b.length > 20000
    · rw [if_pos hc]
      exact ⟨p, hp1, hp2, hs, hd⟩
    rw [if_neg hc]
    obtain ⟨q1, q2⟩ := ord_now (k := ⟨x.files ++ [⟨b, 0⟩], putK x.now nm x.files.length, x.kept⟩) (n := name) (x := p) (mem_put.2 (.inl hp1))
    obtain ⟨q3, _⟩ := ord_kept (k := ⟨x.files ++ [⟨b, 0⟩], putK x.now nm x.files.length, x.kept⟩) (n := name) (x := p) hp2
    refine ⟨_, q1, q3, ?_⟩
    rw [ord_file q2]
    show _ ≤ (fileAt (x.files ++ [⟨b, 0⟩]) p).safe ∧ _ <+: (fileAt (x.files ++ [⟨b, 0⟩]) p).data
    rw [fileAt_app hin.1 hin.2]
    exact ⟨hs, hd⟩
  | some q =>
    dsimp only
    by_cases hc : (fileAt x.files q).data.length + b.length > 20000
    · rw [if_pos hc]
      exact ⟨p, hp1, hp2, hs, hd⟩
    rw [if_neg hc]
    have hq := hrt.n.inn _ ((find_iff hrt.n.srt).1 hx)
    refine ⟨p, hp1, hp2, ?_⟩
    show _ ≤ (fileAt (x.files.set q.toNat _) p).safe ∧ _ <+: (fileAt (x.files.set q.toNat _) p).data
    by_cases e : p = q
    · subst e
      rw [fileAt_set hin.1 hin.2]
      exact ⟨hs, hd.trans (List.prefix_append _ _)⟩
    · rw [fileAt_ne hq.1 hin.1 e]
      exact ⟨hs, hd⟩
theorem lasts_3 {was name : List UInt8} {x : Dk} (h : Lst was name x) (keep : List Int) (dir : Bool) : ∃ now, getS (crashS x keep dir) name = (now, 0) ∧ was.length ≤ now.length ∧ now.take was.length = was := by
  obtain ⟨hr0, p, hp1, hp2, hs, hd⟩ := h
  obtain ⟨q, hq, _⟩ := crash_at hr0 (keep := keep) (dir := dir) (n := name) (x := p) (by cases dir <;> simp [hp1, hp2])
  have hok := leftN_rng (fileOk_at (rt_of hr0) (.inl hp1)) q
  have hpr : was <+: (fileAt x.files p).data.take (leftN (fileAt x.files p) q).toNat := by
    rw [List.prefix_take_iff]
    exact ⟨hd, by omega⟩
  exact ⟨_, hq, hpr.length_le, (List.prefix_iff_eq_take.1 hpr).symm⟩

/-! ### a file in another one's place -/
abbrev nJ : List UInt8 := [106]
abbrev nK : List UInt8 := [107]
def fl (b : List UInt8) : FileD := ⟨b, b.length⟩
def rn1 (a : List UInt8) : Dk := ⟨[⟨a, 0⟩], [⟨nJ, 0⟩], []⟩
def rn2 (a : List UInt8) : Dk := ⟨[fl a], [⟨nJ, 0⟩], []⟩
def rn3 (a : List UInt8) : Dk := ⟨[fl a], [⟨nJ, 0⟩], [⟨nJ, 0⟩]⟩
def rn4 (a b : List UInt8) : Dk := ⟨[fl a, ⟨b, 0⟩], [⟨nJ, 0⟩, ⟨nK, 1⟩], [⟨nJ, 0⟩]⟩
def rn5 (a b : List UInt8) : Dk := ⟨[fl a, fl b], [⟨nJ, 0⟩, ⟨nK, 1⟩], [⟨nJ, 0⟩]⟩
def rn6 (a b : List UInt8) : Dk := ⟨[fl b, fl a], [⟨nJ, 0⟩], [⟨nJ, 1⟩]⟩
theorem rnA (a : List UInt8) (h : a.length ≤ 10000) : appendS dk0 nJ a = (rn1 a, 0) := by
  unfold appendS
  rw [good_id right0, if_neg (by decide)]
  show (if (0 : Nat) ≥ 20 ∨ a.length > 20000 then _ else _) = _
  rw [if_neg (by omega)]
  rfl
theorem rnB (a : List UInt8) (h : rightK (rn1 a) = true) : syncS (rn1 a) nJ = (rn2 a, 0) := by
  unfold syncS
  rw [good_id h]
  rfl
theorem rnC (a : List UInt8) (h : rightK (rn2 a) = true) : syncDirS (rn2 a) = rn3 a := by
  unfold syncDirS
  rw [good_id h]
  rfl
theorem rnD (a b : List UInt8) (h : rightK (rn3 a) = true) (hb : b.length ≤ 10000) : appendS (rn3 a) nK b = (rn4 a b, 0) := by
  unfold appendS
  rw [good_id h, if_neg (by decide)]
  show (if (1 : Nat) ≥ 20 ∨ b.length > 20000 then _ else _) = _
  rw [if_neg (by omega)]
  rfl
theorem rnE (a b : List UInt8) (h : rightK (rn4 a b) = true) : syncS (rn4 a b) nK = (rn5 a b, 0) := by
  unfold syncS
  rw [good_id h]
  rfl
theorem rnF (a b : List UInt8) (h : rightK (rn5 a b) = true) : renameS (rn5 a b) nK nJ = (rn6 a b, 0) := by
  unfold renameS
  rw [good_id h]
  rfl
theorem rnG (a b : List UInt8) (h : rightK (rn6 a b) = true) : syncDirS (rn6 a b) = rn3 b := by
  unfold syncDirS
  rw [good_id h]
  rfl
theorem rn_right (a b : List UInt8) (ha : a.length ≤ 10000) (hb : b.length ≤ 10000) : rightK (rn1 a) = true ∧ rightK (rn2 a) = true ∧ rightK (rn3 a) = true ∧ rightK (rn4 a b) = true ∧ rightK (rn5 a b) = true ∧ rightK (rn6 a b) = true := by
  have h1 := append_right dk0 nJ a
  rw [rnA a ha] at h1
  have h2 := sync_right (rn1 a) nJ
  rw [rnB a h1] at h2
  have h3 := syncDir_right (rn2 a)
  rw [rnC a h2] at h3
  have h4 := append_right (rn3 a) nK b
  rw [rnD a b h3 hb] at h4
  have h5 := sync_right (rn4 a b) nK
  rw [rnE a b h4] at h5
  have h6 := rename_right (rn5 a b) nK nJ
  rw [rnF a b h5] at h6
  exact ⟨h1, h2, h3, h4, h5, h6⟩
theorem fl_left (b : List UInt8) (h : b.length ≤ 20000) (q : Option Int) : b.take (leftN (fl b) q).toNat = b := by
  have := leftN_rng (f := fl b) (fileOk_iff.2 ⟨h, by simp [fl], by simp [fl]⟩) q
  simp only [fl] at this
  exact List.take_of_length_le (by simp only [fl]; omega)
theorem rn_crash (a b : List UInt8) (ha : a.length ≤ 10000) (hb : b.length ≤ 10000) (keep : List Int) (dir : Bool) : getS (crashS (rn6 a b) keep dir) nJ = (if dir then b else a, 0) := by
  have h6 := (rn_right a b ha hb).2.2.2.2.2
  cases dir with
  | true =>
    obtain ⟨q, hq, _⟩ := crash_at h6 (keep := keep) (dir := true) (n := nJ) (x := 0) (by simp [rn6])
    rw [hq]
    show (b.take (leftN (fl b) q).toNat, _) = _
    rw [fl_left b (by omega)]
    rfl
  | false =>
    obtain ⟨q, hq, _⟩ := crash_at h6 (keep := keep) (dir := false) (n := nJ) (x := 1) (by simp [rn6])
    rw [hq]
    show (a.take (leftN (fl a) q).toNat, _) = _
    rw [fl_left a (by omega)]
    rfl
theorem rn_crash2 (a b : List UInt8) (ha : a.length ≤ 10000) (hb : b.length ≤ 10000) (keep : List Int) (dir : Bool) : getS (crashS (rn3 b) keep dir) nJ = (b, 0) := by
  have h3 := (rn_right b b hb hb).2.2.1
  obtain ⟨q, hq, _⟩ := crash_at h3 (keep := keep) (dir := dir) (n := nJ) (x := 0) (by cases dir <;> simp [rn3])
  rw [hq]
  show (b.take (leftN (fl b) q).toNat, _) = _
  rw [fl_left b (by omega)]

end Go.Proofs.YtkbidfohcanijaaGreat
