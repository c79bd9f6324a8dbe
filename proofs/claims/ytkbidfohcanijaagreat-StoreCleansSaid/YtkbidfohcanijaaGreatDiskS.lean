/- Disks: what the program's disk and the document's layer 8 both answer, in plain terms. -/
import Derived.Test.YtkbidfohcanijaaGreatTy
namespace Go.Proofs.YtkbidfohcanijaaGreat
open BoEng Go
set_option maxRecDepth 100000
set_option linter.unusedSimpArgs false
set_option linter.unusedVariables false

structure FileD where
  data : List UInt8
  safe : Int
  deriving DecidableEq
instance : Inhabited FileD := ⟨⟨[], 0⟩⟩
def FileD.d (f : FileD) : DV := .agg [.slice (f.data.map byteD), .int .i64 f.safe]
structure Ent where
  name : List UInt8
  file : Int
  deriving DecidableEq
instance : Inhabited Ent := ⟨⟨[], 0⟩⟩
def Ent.d (e : Ent) : DV := .agg [.str e.name, .int .i64 e.file]
structure Dk where
  files : List FileD
  now : List Ent
  kept : List Ent
  deriving DecidableEq
def Dk.d (k : Dk) : DV := .agg [.slice (k.files.map FileD.d), .slice (k.now.map Ent.d), .slice (k.kept.map Ent.d)]
def dk0 : Dk := ⟨[], [], []⟩
@[simp] theorem cells_file (f : FileD) : cells f.d = [.slice (f.data.map byteD), .int .i64 f.safe] := rfl
@[simp] theorem cells_ent (e : Ent) : cells e.d = [.str e.name, .int .i64 e.file] := rfl
@[simp] theorem cells_dk (k : Dk) : cells k.d = [.slice (k.files.map FileD.d), .slice (k.now.map Ent.d), .slice (k.kept.map Ent.d)] := rfl
/-- Sizes that may be gone through. -/
def sizedF (l : List FileD) : Prop := l.length ≤ 100000 ∧ ∀ f ∈ l, f.data.length ≤ 100000
def sizedE (l : List Ent) : Prop := l.length ≤ 100000 ∧ ∀ e ∈ l, e.name.length ≤ 9223372036854775807
def sizedK (k : Dk) : Prop := sizedF k.files ∧ sizedE k.now ∧ sizedE k.kept

/-! ### strings in order -/
theorem lt_irrefl : ∀ a : List UInt8, strLt a a = false
  | [] => rfl
  | a :: l => by
    have := lt_irrefl l
    simp only [strLt] at this
    simp [strLt, Op.bytesLess, this]
theorem lt_cons (a b : UInt8) (x y : List UInt8) : strLt (a :: x) (b :: y) = (decide (a < b) || (a == b && strLt x y)) := rfl
theorem lt_trans : ∀ a b c : List UInt8, strLt a b = true → strLt b c = true → strLt a c = true
  | [], [], c, h, _ => by simp [strLt, Op.bytesLess] at h
  | [], b :: y, [], _, h => by simp [strLt, Op.bytesLess] at h
  | [], b :: y, c :: z, _, _ => rfl
  | a :: x, [], c, h, _ => by simp [strLt, Op.bytesLess] at h
  | a :: x, b :: y, [], _, h => by simp [strLt, Op.bytesLess] at h
  | a :: x, b :: y, c :: z, h1, h2 => by
    have ih := lt_trans x y z
    rw [lt_cons] at h1 h2 ⊢
    simp only [Bool.or_eq_true, Bool.and_eq_true, decide_eq_true_eq, beq_iff_eq] at h1 h2 ⊢
    rcases h1 with h1 | ⟨h1, h1'⟩ <;> rcases h2 with h2 | ⟨h2, h2'⟩
    · exact .inl (UInt8.lt_trans h1 h2)
    · subst h2; exact .inl h1
    · subst h1; exact .inl h2
    · subst h1 h2; exact .inr ⟨rfl, ih h1' h2'⟩
theorem lt_tri : ∀ a b : List UInt8, strLt a b = false → a ≠ b → strLt b a = true
  | [], [], _, h => absurd rfl h
  | [], b :: y, h, _ => by simp [strLt, Op.bytesLess] at h
  | a :: x, [], _, _ => rfl
  | a :: x, b :: y, h1, h2 => by
    have ih := lt_tri x y
    rw [lt_cons] at h1 ⊢
    simp only [Bool.or_eq_false_iff, Bool.and_eq_false_iff, decide_eq_false_iff_not, beq_eq_false_iff_ne, Bool.or_eq_true, Bool.and_eq_true, decide_eq_true_eq, beq_iff_eq] at h1 ⊢
    obtain ⟨h3, h4⟩ := h1
    by_cases e : a = b
    · subst e
      refine .inr ⟨rfl, ih ?_ (fun e => h2 (by rw [e]))⟩
      rcases h4 with h4 | h4
      · exact absurd rfl h4
      · exact h4
    · refine .inl ?_
      rw [UInt8.lt_iff_toNat_lt] at h3 ⊢
      have : a.toNat ≠ b.toNat := fun h => e (UInt8.toNat.inj h)
      omega
theorem lt_asymm {a b : List UInt8} (h : strLt a b = true) : strLt b a = false := by
  cases h2 : strLt b a with
  | false => rfl
  | true =>
    have := lt_trans a b a h h2
    rw [lt_irrefl] at this
    cases this

/-! ### names -/
def fairN (n : List UInt8) : Bool := decide (1 ≤ n.length ∧ n.length ≤ 16)
/-- Is there an entry of a file? -/
def hasF (l : List Ent) (x : Int) : Bool := l.any fun e => decide (e.file = x)
def nmAt (l : List Ent) (many : Int) (i : Nat) : Bool :=
  fairN (l.getD i default).name && decide (0 ≤ (l.getD i default).file ∧ (l.getD i default).file < many) && !hasF (l.take i) (l.getD i default).file && (decide (i = 0) || strLt (l.getD (i - 1) default).name (l.getD i default).name)
def namedS (l : List Ent) (many : Int) : Bool := (List.range l.length).all (nmAt l many)
theorem hasF_iff {l : List Ent} {x : Int} : hasF l x = true ↔ ∃ e ∈ l, e.file = x := by simp [hasF]
theorem hasF_take {l : List Ent} {x : Int} {i : Nat} (h : i < l.length) : hasF (l.take (i + 1)) x = (hasF (l.take i) x || decide (l[i].file = x)) := by
  unfold hasF
  rw [List.take_succ_eq_append_getElem h, List.any_append]
  simp
theorem hasF_app {l k : List Ent} {x : Int} : hasF (l ++ k) x = (hasF l x || hasF k x) := by simp [hasF]
theorem nmAt_get {l : List Ent} {many : Int} {i : Nat} (h : i < l.length) : nmAt l many i = (fairN l[i].name && decide (0 ≤ l[i].file ∧ l[i].file < many) && !hasF (l.take i) l[i].file && (decide (i = 0) || strLt (l.getD (i - 1) default).name l[i].name)) := by
  simp only [nmAt, List.getD_eq_getElem?_getD, List.getElem?_eq_getElem h, Option.getD_some]
theorem named_all {l : List Ent} {many : Int} : namedS l many = true ↔ ∀ i, i < l.length → nmAt l many i = true := by
  unfold namedS
  rw [List.all_eq_true]
  simp only [List.mem_range]
theorem named_no {l : List Ent} {many : Int} {i : Nat} (h : i < l.length) (hn : nmAt l many i = false) : namedS l many = false := by
  rw [Bool.eq_false_iff]
  intro h2
  rw [named_all.1 h2 i h] at hn
  cases hn

/-! ### numbers -/
/-- The files as they come up. -/
def cameS (l : List Ent) : List Int := l.foldl (fun w e => if w.contains e.file then w else w ++ [e.file]) []
def addC (w : List Int) (x : Int) : List Int := if w.contains x then w else w ++ [x]
theorem cameS_snoc (l : List Ent) (e : Ent) : cameS (l ++ [e]) = addC (cameS l) e.file := by simp [cameS, addC]
theorem cameS_nil : cameS [] = [] := rfl
theorem mem_addC {w : List Int} {x y : Int} : y ∈ addC w x ↔ y ∈ w ∨ y = x := by
  unfold addC
  split
  · rename_i h
    have h : x ∈ w := by simpa using h
    exact ⟨fun h => .inl h, fun h2 => h2.elim id fun e => e ▸ h⟩
  · simp
theorem snoc_ind {α : Type} {p : List α → Prop} (h0 : p []) (hs : ∀ l x, p l → p (l ++ [x])) : ∀ l, p l := by
  intro l
  have : ∀ n (l : List α), l.length = n → p l := by
    intro n
    induction n with
    | zero => intro l h; rw [List.eq_nil_of_length_eq_zero h]; exact h0
    | succ n ih =>
      intro l h
      have hne : l ≠ [] := fun e => by subst e; simp at h
      rw [← List.dropLast_concat_getLast hne]
      exact hs _ _ (ih _ (by simp [h]))
  exact this l.length l rfl
theorem mem_came {l : List Ent} {x : Int} : x ∈ cameS l ↔ ∃ e ∈ l, e.file = x := by
  induction l using snoc_ind with
  | h0 => simp [cameS]
  | hs l e ih =>
    rw [cameS_snoc, mem_addC, ih]
    constructor
    · rintro (⟨e', h, rfl⟩ | rfl)
      · exact ⟨e', by simp [h], rfl⟩
      · exact ⟨e, by simp, rfl⟩
    · rintro ⟨e', h, rfl⟩
      rcases List.mem_append.1 h with h | h
      · exact .inl ⟨e', h, rfl⟩
      · simp at h; subst h; exact .inr rfl
theorem came_nodup (l : List Ent) : (cameS l).Nodup := by
  induction l using snoc_ind with
  | h0 => simp [cameS]
  | hs l e ih =>
    rw [cameS_snoc]
    unfold addC
    split
    · exact ih
    · rename_i h
      have h : e.file ∉ cameS l := by simpa using h
      rw [List.nodup_append]
      refine ⟨ih, by simp, fun a ha b hb => ?_⟩
      simp at hb
      subst hb
      exact fun e2 => h (e2 ▸ ha)
theorem addC_pre (w : List Int) (x : Int) : ∃ r, addC w x = w ++ r := by
  unfold addC
  split
  · exact ⟨[], by simp⟩
  · exact ⟨[x], rfl⟩
theorem came_pre (l k : List Ent) : ∃ r, cameS (l ++ k) = cameS l ++ r := by
  induction k using snoc_ind with
  | h0 => exact ⟨[], by simp⟩
  | hs k e ih =>
    obtain ⟨r, hr⟩ := ih
    rw [← List.append_assoc, cameS_snoc, hr]
    obtain ⟨r2, h2⟩ := addC_pre (cameS l ++ r) e.file
    exact ⟨r ++ r2, by rw [h2, List.append_assoc]⟩
/-- The place of a file in a list of files. -/
def posC (w : List Int) (x : Int) : Int := (w.idxOf x : Nat)
theorem posC_app {w r : List Int} {x : Int} (h : x ∈ w) : posC (w ++ r) x = posC w x := by
  unfold posC
  rw [List.idxOf_append, if_pos h]
theorem posC_new {w : List Int} {x : Int} (h : x ∉ w) : posC (w ++ [x]) x = w.length := by
  unfold posC
  rw [List.idxOf_append, if_neg h]
  simp
theorem posC_rng {w : List Int} {x : Int} (h : x ∈ w) : 0 ≤ posC w x ∧ posC w x < w.length := by
  unfold posC
  have := List.idxOf_lt_length_iff.2 h
  omega
theorem posC_at {w : List Int} {x : Int} (h : x ∈ w) : w[(posC w x).toNat]? = some x := by
  unfold posC
  have := List.idxOf_lt_length_iff.2 h
  rw [Int.toNat_natCast, List.getElem?_eq_getElem this, List.getElem_idxOf]
theorem posC_inj {w : List Int} {x y : Int} (hx : x ∈ w) (hy : y ∈ w) (h : posC w x = posC w y) : x = y := by
  have h1 := posC_at hx
  have h2 := posC_at hy
  rw [h, h2] at h1
  exact (Option.some.inj h1).symm
def renE (w : List Int) (e : Ent) : Ent := ⟨e.name, posC w e.file⟩
def fileAt (l : List FileD) (x : Int) : FileD := l.getD x.toNat default
def orderedS (k : Dk) : Dk := ⟨(cameS (k.now ++ k.kept)).map (fileAt k.files), k.now.map (renE (cameS (k.now ++ k.kept))), k.kept.map (renE (cameS (k.now ++ k.kept)))⟩
/-- All numbers are of files. -/
def inK (l : List Ent) (many : Nat) : Prop := ∀ e ∈ l, 0 ≤ e.file ∧ e.file < many

/-! ### right disks -/
def fileOk (f : FileD) : Bool := decide (f.data.length ≤ 20000 ∧ 0 ≤ f.safe ∧ f.safe ≤ f.data.length)
def upTo (n : Nat) : List Int := (List.range n).map fun (i : Nat) => (i : Int)
theorem upTo_len (n : Nat) : (upTo n).length = n := by simp [upTo]
theorem upTo_succ (n : Nat) : upTo (n + 1) = upTo n ++ [(n : Int)] := by simp [upTo, List.range_succ]
theorem mem_upTo {n : Nat} {x : Int} : x ∈ upTo n ↔ 0 ≤ x ∧ x < n := by
  simp only [upTo, List.mem_map, List.mem_range]
  constructor
  · rintro ⟨i, h, rfl⟩; omega
  · rintro ⟨h0, h1⟩; exact ⟨x.toNat, by omega, by omega⟩
theorem upTo_get {n i : Nat} (h : i < n) : (upTo n)[i]? = some (i : Int) := by simp [upTo, h]
def rightK (k : Dk) : Bool := decide (k.files.length ≤ 20) && namedS k.now k.files.length && namedS k.kept k.files.length && k.files.all fileOk && decide (cameS (k.now ++ k.kept) = upTo k.files.length)
def goodK (k : Dk) : Dk := if rightK k then k else dk0
theorem named_in {l : List Ent} {m : Nat} (h : namedS l m = true) : inK l m := by
  intro e he
  obtain ⟨i, hi, rfl⟩ := List.mem_iff_getElem.1 he
  have := named_all.1 h i hi
  rw [nmAt_get hi] at this
  simp only [Bool.and_eq_true, decide_eq_true_eq] at this
  exact this.1.1.2
theorem rightK_iff {k : Dk} : rightK k = true ↔ k.files.length ≤ 20 ∧ namedS k.now k.files.length = true ∧ namedS k.kept k.files.length = true ∧ k.files.all fileOk = true ∧ cameS (k.now ++ k.kept) = upTo k.files.length := by
  simp [rightK, and_assoc]
theorem posC_upTo {n : Nat} {x : Int} (h0 : 0 ≤ x) (h1 : x < n) : posC (upTo n) x = x := by
  have hm : x ∈ upTo n := mem_upTo.2 ⟨h0, h1⟩
  have h2 := posC_at hm
  obtain ⟨h3, h4⟩ := posC_rng hm
  rw [upTo_len] at h4
  rw [upTo_get (by omega)] at h2
  have := Option.some.inj h2
  omega
/-- A right disk is in order. -/
theorem ordered_right {k : Dk} (h : rightK k = true) : orderedS k = k := by
  obtain ⟨h1, h2, h3, h4, h5⟩ := rightK_iff.1 h
  have hr : ∀ l : List Ent, inK l k.files.length → l.map (renE (upTo k.files.length)) = l := by
    intro l hl
    have : ∀ e ∈ l, renE (upTo k.files.length) e = e := by
      intro e he
      obtain ⟨a, b⟩ := hl e he
      simp only [renE, posC_upTo a b]
    rw [List.map_congr_left this, List.map_id']
  have hf : (upTo k.files.length).map (fileAt k.files) = k.files := by
    apply List.ext_getElem?
    intro i
    rw [List.getElem?_map]
    by_cases hi : i < k.files.length
    · rw [upTo_get hi]
      simp [fileAt, List.getD_eq_getElem?_getD, hi]
    · rw [List.getElem?_eq_none (by rw [upTo_len]; omega), List.getElem?_eq_none (by omega)]
      rfl
  unfold orderedS
  rw [h5, hr _ (named_in h2), hr _ (named_in h3), hf]
theorem right0 : rightK dk0 = true := by simp [rightK_iff, dk0, namedS, cameS, upTo]
theorem good_right (k : Dk) : rightK (goodK k) = true := by
  unfold goodK
  split
  · assumption
  · exact right0
theorem good_id {k : Dk} (h : rightK k = true) : goodK k = k := if_pos h
theorem good_good (k : Dk) : goodK (goodK k) = goodK k := good_id (good_right k)

/-! ### the numbers that come up, one by one -/
/-- The next number, along a list; none: a number is too high. -/
def nextK : Int → List Ent → Option Int
  | n, [] => some n
  | n, e :: l => if e.file > n then none else nextK (max n (e.file + 1)) l
theorem nextK_snoc (n : Int) (l : List Ent) (e : Ent) : nextK n (l ++ [e]) = (nextK n l).bind fun m => if e.file > m then none else some (max m (e.file + 1)) := by
  induction l generalizing n with
  | nil => simp [nextK]
  | cons x l ih =>
    simp only [List.cons_append, nextK]
    split
    · rfl
    · exact ih _
theorem nextK_app (n : Int) (l k : List Ent) : nextK n (l ++ k) = (nextK n l).bind fun m => nextK m k := by
  induction l generalizing n with
  | nil => simp [nextK]
  | cons x l ih =>
    simp only [List.cons_append, nextK]
    split
    · rfl
    · exact ih _
theorem nextK_came : ∀ (l : List Ent), (∀ e ∈ l, 0 ≤ e.file) → ∀ m : Int, nextK 0 l = some m ↔ 0 ≤ m ∧ cameS l = upTo m.toNat := by
  intro l
  induction l using snoc_ind with
  | h0 =>
    intro _ m
    simp only [nextK, cameS_nil, Option.some.injEq]
    constructor
    · rintro rfl; exact ⟨by omega, rfl⟩
    · rintro ⟨h1, h2⟩
      have := congrArg List.length h2
      rw [upTo_len] at this
      simp at this
      omega
  | hs l e ih =>
    intro hf m
    have ih := ih (fun x hx => hf x (by simp [hx]))
    have he := hf e (by simp)
    rw [nextK_snoc, cameS_snoc]
    constructor
    · intro h
      rw [Option.bind_eq_some_iff] at h
      obtain ⟨q, hq, h⟩ := h
      obtain ⟨h0, h1⟩ := (ih q).1 hq
      split at h
      · cases h
      · rename_i hle
        cases h
        refine ⟨by omega, ?_⟩
        rw [h1]
        unfold addC
        by_cases hlt : e.file < q
        · rw [if_pos (by simpa using mem_upTo.2 ⟨he, by omega⟩)]
          congr 1
          omega
        · rw [if_neg (by
            simp only [List.contains_iff_mem, mem_upTo]
            omega)]
          have e1 : e.file = (q.toNat : Int) := by omega
          have e2 : (max q (e.file + 1)).toNat = q.toNat + 1 := by omega
          rw [e2, upTo_succ, e1]
    · rintro ⟨h0, h1⟩
      have hc : ∃ q : Int, nextK 0 l = some q := by
        obtain ⟨r, hr⟩ := addC_pre (cameS l) e.file
        rw [hr] at h1
        refine ⟨(cameS l).length, (ih _).2 ⟨by omega, ?_⟩⟩
        rw [Int.toNat_natCast]
        have : (cameS l).length ≤ m.toNat := by
          have := congrArg List.length h1
          rw [upTo_len, List.length_append] at this
          omega
        have h3 := congrArg (List.take (cameS l).length) h1
        rw [List.take_left'  rfl] at h3
        rw [h3]
        unfold upTo
        rw [← List.map_take, List.take_range]
        congr 2
        simp
      obtain ⟨q, hq⟩ := hc
      obtain ⟨h2, h3⟩ := (ih q).1 hq
      rw [hq, Option.bind_some]
      rw [h3] at h1
      unfold addC at h1
      split at h1
      · rename_i hm
        have hm : e.file ∈ upTo q.toNat := by simpa using hm
        have := mem_upTo.1 hm
        have hl := congrArg List.length h1
        rw [upTo_len, upTo_len] at hl
        rw [if_neg (by omega)]
        congr 1
        omega
      · rename_i hm
        have hm : e.file ∉ upTo q.toNat := by simpa using hm
        rw [mem_upTo] at hm
        have hl := congrArg List.length h1
        rw [List.length_append, upTo_len, upTo_len] at hl
        simp at hl
        have e2 : m.toNat = q.toNat + 1 := by omega
        rw [e2, upTo_succ] at h1
        have := List.append_cancel_left h1
        simp at this
        rw [if_neg (by omega)]
        congr 1
        omega

/-! ### names in lists -/
/-- Where a name stands, or would. -/
def atK (l : List Ent) (name : List UInt8) : Nat := (l.takeWhile fun e => strLt e.name name).length
def foundK (l : List Ent) (name : List UInt8) : Bool := decide (atK l name < l.length) && decide ((l.getD (atK l name) default).name = name)
theorem atK_le (l : List Ent) (name : List UInt8) : atK l name ≤ l.length := (List.takeWhile_sublist _).length_le
def findK (l : List Ent) (name : List UInt8) : Option Int := (l.find? fun e => decide (e.name = name)).map Ent.file
def dropK (l : List Ent) (name : List UInt8) : List Ent := l.filter fun e => decide (e.name ≠ name)
def putK (l : List Ent) (name : List UInt8) (file : Int) : List Ent := l.take (atK l name) ++ ⟨name, file⟩ :: l.drop (atK l name)
/-- Names in order. -/
def Srt (l : List Ent) : Prop := l.Pairwise fun a b => strLt a.name b.name = true

theorem named_srt {l : List Ent} {m : Int} (h : namedS l m = true) : Srt l := by
  unfold Srt
  rw [List.pairwise_iff_getElem]
  intro i j hi hj hij
  induction j with
  | zero => omega
  | succ j ih =>
    have h1 := named_all.1 h (j + 1) hj
    rw [nmAt_get hj] at h1
    have hjl : j < l.length := by omega
    simp only [Bool.and_eq_true, Bool.or_eq_true, decide_eq_true_eq, Nat.add_sub_cancel, List.getD_eq_getElem?_getD, List.getElem?_eq_getElem hjl, Option.getD_some] at h1
    have h2 : strLt l[j].name l[j + 1].name = true := by
      rcases h1.2 with h | h
      · omega
      · exact h
    by_cases e : i = j
    · subst e; exact h2
    · exact lt_trans _ _ _ (ih hjl (by omega)) h2
theorem atK_lt {l : List Ent} {name : List UInt8} {j : Nat} (h : j < atK l name) (hl : j < l.length) : strLt l[j].name name = true := by
  have h1 : (l.takeWhile fun e => strLt e.name name) = l.take (atK l name) := by
    have := List.takeWhile_prefix (l := l) (fun e => strLt e.name name)
    exact List.prefix_iff_eq_take.1 this
  have h2 : l[j] ∈ l.takeWhile fun e => strLt e.name name := by
    rw [h1, List.mem_take_iff_getElem]
    exact ⟨j, by omega, rfl⟩
  have h3 := List.all_eq_true.1 (List.all_takeWhile (l := l) (p := fun e => strLt e.name name)) _ h2
  exact h3
theorem atK_at {l : List Ent} {name : List UInt8} (h : atK l name < l.length) : strLt l[atK l name].name name = false := by
  have h1 := List.takeWhile_append_dropWhile (l := l) (p := fun e => strLt e.name name)
  have h2 : (l.dropWhile fun e => strLt e.name name) = l.drop (atK l name) := by
    have h3 := congrArg (List.drop (atK l name)) h1
    unfold atK at h3 ⊢
    rw [List.drop_left] at h3
    exact h3
  cases h3 : strLt l[atK l name].name name with
  | false => rfl
  | true =>
    have h4 : (l.dropWhile fun e => strLt e.name name).head? = some l[atK l name] := by
      rw [h2, List.head?_drop]
      simp [h]
    have h5 := List.head?_dropWhile_not (fun e : Ent => strLt e.name name) l
    rw [h4] at h5
    simp [h3] at h5
theorem atK_eq {l : List Ent} {name : List UInt8} {i : Nat} (hi : i ≤ l.length) (h1 : ∀ j (h : j < l.length), j < i → strLt l[j].name name = true) (h2 : ∀ h : i < l.length, strLt l[i].name name = false) : atK l name = i := by
  rcases Nat.lt_trichotomy (atK l name) i with h | h | h
  · have h3 : atK l name < l.length := by omega
    have := h1 _ h3 h
    rw [atK_at h3] at this
    cases this
  · exact h
  · have h3 : i < l.length := by have := atK_le l name; omega
    have := atK_lt h h3
    rw [h2 h3] at this
    cases this
theorem srt_lt {l : List Ent} (h : Srt l) {i j : Nat} (hj : j < l.length) (hij : i < j) : strLt (l[i]'(by omega)).name l[j].name = true := (List.pairwise_iff_getElem.1 h) i j (by omega) hj hij
theorem found_iff {l : List Ent} (hs : Srt l) {name : List UInt8} : (foundK l name = true ↔ ∃ e ∈ l, e.name = name) ∧ (foundK l name = true → findK l name = some (l.getD (atK l name) default).file) ∧ (foundK l name = false → findK l name = none) := by
  have key : ∀ i (hi : i < l.length), l[i].name = name → atK l name = i := by
    intro i hi he
    refine atK_eq (by omega) (fun j hj hji => ?_) (fun _ => ?_)
    · rw [← he]; exact srt_lt hs hi hji
    · rw [he]; exact lt_irrefl _
  have h1 : foundK l name = true ↔ ∃ e ∈ l, e.name = name := by
    constructor
    · intro h
      simp only [foundK, Bool.and_eq_true, decide_eq_true_eq] at h
      obtain ⟨h2, h3⟩ := h
      rw [List.getD_eq_getElem?_getD, List.getElem?_eq_getElem h2] at h3
      exact ⟨_, List.getElem_mem h2, h3⟩
    · rintro ⟨e, he, hn⟩
      obtain ⟨i, hi, rfl⟩ := List.mem_iff_getElem.1 he
      have := key i hi hn
      simp only [foundK, this, hi, decide_true, List.getD_eq_getElem?_getD, List.getElem?_eq_getElem hi, Option.getD_some, hn, Bool.and_self]
  refine ⟨h1, fun h => ?_, fun h => ?_⟩
  · unfold findK
    cases hf : l.find? fun e => decide (e.name = name) with
    | none =>
      obtain ⟨e, he, hn⟩ := h1.1 h
      have := List.find?_eq_none.1 hf e he
      simp [hn] at this
    | some e =>
      have hn := List.find?_some hf
      have hm := List.mem_of_find?_eq_some hf
      obtain ⟨i, hi, rfl⟩ := List.mem_iff_getElem.1 hm
      have := key i hi (by simpa using hn)
      rw [this]
      simp [List.getD_eq_getElem?_getD, hi]
  · unfold findK
    cases hf : l.find? fun e => decide (e.name = name) with
    | none => rfl
    | some e =>
      have hn := List.find?_some hf
      have hm := List.mem_of_find?_eq_some hf
      rw [h1.2 ⟨e, hm, by simpa using hn⟩] at h
      cases h

/-! ### what is done to a disk -/
def setFile (k : Dk) (n : Int) (f : FileD) : Dk := ⟨k.files.set n.toNat f, k.now, k.kept⟩
def getS (k : Dk) (name : List UInt8) : List UInt8 × Int :=
  match findK (goodK k).now name with
  | some x => ((fileAt (goodK k).files x).data, 0)
  | none => ([], 5)
def appendS (k : Dk) (name b : List UInt8) : Dk × Int :=
  if fairN name = false then (goodK k, 1) else
  match findK (goodK k).now name with
  | none => if (goodK k).files.length ≥ 20 ∨ b.length > 20000 then (goodK k, 3) else (orderedS ⟨(goodK k).files ++ [⟨b, 0⟩], putK (goodK k).now name (goodK k).files.length, (goodK k).kept⟩, 0)
  | some x => if (fileAt (goodK k).files x).data.length + b.length > 20000 then (goodK k, 3) else (setFile (goodK k) x ⟨(fileAt (goodK k).files x).data ++ b, (fileAt (goodK k).files x).safe⟩, 0)
def syncS (k : Dk) (name : List UInt8) : Dk × Int :=
  match findK (goodK k).now name with
  | none => (goodK k, 5)
  | some x => (setFile (goodK k) x ⟨(fileAt (goodK k).files x).data, (fileAt (goodK k).files x).data.length⟩, 0)
def cutS (k : Dk) (name : List UInt8) (n : Int) : Dk × Int :=
  match findK (goodK k).now name with
  | none => (goodK k, 5)
  | some x => if n < 0 ∨ n > (fileAt (goodK k).files x).data.length then (goodK k, 1) else (setFile (goodK k) x ⟨(fileAt (goodK k).files x).data.take n.toNat, n⟩, 0)
def renameS (k : Dk) (name to : List UInt8) : Dk × Int :=
  match findK (goodK k).now name with
  | none => (goodK k, 5)
  | some x => if fairN to = false then (goodK k, 1) else (orderedS ⟨(goodK k).files, putK (dropK (dropK (goodK k).now name) to) to x, (goodK k).kept⟩, 0)
def removeS (k : Dk) (name : List UInt8) : Dk × Int :=
  match findK (goodK k).now name with
  | none => (goodK k, 5)
  | some _ => (orderedS ⟨(goodK k).files, dropK (goodK k).now name, (goodK k).kept⟩, 0)
def syncDirS (k : Dk) : Dk := orderedS ⟨(goodK k).files, (goodK k).now, (goodK k).now⟩
/-- How many bytes of a file are left. -/
def leftN (f : FileD) (keep : Option Int) : Int :=
  match keep with
  | some x => f.safe + max 0 (min x (f.data.length - f.safe))
  | none => f.safe
def cutF (f : FileD) (n : Int) : FileD := ⟨f.data.take n.toNat, n⟩
def crashL (k : Dk) (dir : Bool) : List Ent := if dir then (goodK k).now else (goodK k).kept
def crashS (k : Dk) (keep : List Int) (dir : Bool) : Dk :=
  ⟨(List.range (crashL k dir).length).map fun i => cutF (fileAt (goodK k).files ((crashL k dir).getD i default).file) (leftN (fileAt (goodK k).files ((crashL k dir).getD i default).file) keep[i]?),
   (List.range (crashL k dir).length).map fun i => ⟨((crashL k dir).getD i default).name, i⟩, (List.range (crashL k dir).length).map fun i => ⟨((crashL k dir).getD i default).name, i⟩⟩
end Go.Proofs.YtkbidfohcanijaaGreat
