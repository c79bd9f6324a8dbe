/- Options: what the program's tlv and the document's layer 3 both answer. -/
import Derived.Test.YtimlalndjfmnbaaDoorCode
namespace Go.Proofs.YtimlalndjfmnbaaDoor
open BoEng Go
set_option maxRecDepth 100000
attribute [-simp] List.map_take List.map_drop List.length_flatMap
set_option linter.unusedSimpArgs false
set_option linter.unusedVariables false

/-- The place of a code. -/
def atS : List Opt → Int → Int
  | [], _ => -1
  | o :: l, c => if o.code = c then 0 else if atS l c < 0 then -1 else atS l c + 1
theorem atS_rng : ∀ (l : List Opt) (c : Int), -1 ≤ atS l c ∧ atS l c < l.length
  | [], c => by simp [atS]
  | o :: l, c => by
    have := atS_rng l c
    simp only [atS, List.length_cons]
    split
    · omega
    · split <;> omega
/-- The first option of a code. -/
def findS (l : List Opt) (c : Int) : Option (List UInt8) := (l.find? fun o => decide (o.code = c)).map Opt.data
theorem atS_none : ∀ (l : List Opt) (c : Int), atS l c < 0 ↔ ∀ o ∈ l, o.code ≠ c
  | [], c => by simp [atS]
  | o :: l, c => by
    have h := atS_none l c
    have := atS_rng l c
    simp only [atS, List.forall_mem_cons]
    by_cases e : o.code = c
    · simp [e]
    · simp only [if_neg e]
      split
      · rename_i h1
        exact ⟨fun _ => ⟨e, h.1 h1⟩, fun _ => by omega⟩
      · rename_i h1
        exact ⟨fun h2 => by omega, fun h2 => absurd (h.2 h2.2) h1⟩
/-- The place is the first one of that code. -/
theorem atS_some : ∀ (l : List Opt) (c : Int) (i : Nat) (h : i < l.length), (∀ j (hj : j < i), (l[j]'(by omega)).code ≠ c) → l[i].code = c → atS l c = i
  | [], c, i, h, _, _ => by simp at h
  | o :: l, c, 0, h, _, e => by simp at e; simp [atS, e]
  | o :: l, c, i + 1, h, hn, e => by
    have h0 := hn 0 (by omega)
    simp at h0
    have ih := atS_some l c i (by simpa using h) (fun j hj => by have := hn (j + 1) (by omega); simpa using this) (by simpa using e)
    simp only [atS, if_neg h0, ih]
    rw [if_neg (by omega)]
    omega
theorem findS_at : ∀ (l : List Opt) (c : Int), (atS l c < 0 → findS l c = none) ∧ (0 ≤ atS l c → ∃ h : (atS l c).toNat < l.length, findS l c = some (l[(atS l c).toNat]).data)
  | [], c => by simp [atS, findS]
  | o :: l, c => by
    have ih := findS_at l c
    have hr := atS_rng l c
    by_cases e : o.code = c
    · have h0 : atS (o :: l) c = 0 := by simp [atS, e]
      rw [h0]
      refine ⟨fun h => by omega, fun _ => ⟨by simp, by simp [findS, e]⟩⟩
    · have hf : findS (o :: l) c = findS l c := by simp [findS, e]
      by_cases h1 : atS l c < 0
      · have h0 : atS (o :: l) c = -1 := by simp [atS, e, h1]
        rw [h0, hf]
        exact ⟨fun _ => ih.1 h1, fun h => by omega⟩
      · have h0 : atS (o :: l) c = atS l c + 1 := by simp [atS, e, h1]
        rw [h0, hf]
        obtain ⟨hl, hh⟩ := ih.2 (by omega)
        have ht : (atS l c + 1).toNat = (atS l c).toNat + 1 := by omega
        refine ⟨fun h => by omega, fun _ => ⟨by rw [ht]; simp; omega, ?_⟩⟩
        rw [hh]
        simp only [ht, List.getElem_cons_succ]

def okO (o : Opt) : Bool := decide (1 ≤ o.code ∧ o.code ≤ 254) && decide (o.data.length ≤ 600)
/-- Options that may be. -/
def rightO (l : List Opt) : Bool := decide (l.length ≤ 60) && l.all okO && decide ((l.map Opt.code).Nodup)
/-- Options of a size that may be gone through. -/
def sized (l : List Opt) : Prop := l.length ≤ 100000 ∧ ∀ o ∈ l, o.data.length ≤ 100000
theorem sized_at {l : List Opt} (h : sized l) {i : Nat} (hi : i < l.length) : l[i].data.length ≤ 100000 := h.2 _ (List.getElem_mem hi)
/-- How many options of a code. -/
def hasN (l : List Opt) (c : Int) : Int := (l.countP fun o => decide (o.code = c) : Nat)

theorem nodup_at (l : List Opt) : (l.map Opt.code).Nodup ↔ ∀ i (h : i < l.length), atS l l[i].code = i := by
  unfold List.Nodup
  rw [List.pairwise_iff_getElem]
  constructor
  · intro hn i hi
    refine atS_some l _ i hi (fun j hj e => ?_) rfl
    have := hn j i (by simp; omega) (by simpa using hi) hj
    simp [e] at this
  · intro h i j hi hj hij e
    simp at hi hj e
    have h1 := h i hi
    have h2 := h j hj
    rw [e, h2] at h1
    omega
theorem nodup_has : ∀ (l : List Opt), (l.map Opt.code).Nodup ↔ ∀ o ∈ l, hasN l o.code ≤ 1
  | [] => by simp
  | o :: l => by
    have ih := nodup_has l
    simp only [List.map_cons, List.nodup_cons, List.mem_map, not_exists, not_and, List.forall_mem_cons, ih]
    have hc : ∀ c, hasN (o :: l) c = hasN l c + (if o.code = c then 1 else 0) := by
      intro c
      by_cases e : o.code = c <;> simp [hasN, List.countP_cons, e]
    constructor
    · rintro ⟨h1, h2⟩
      have h0 : hasN l o.code = 0 := by
        have : (l.countP fun x => decide (x.code = o.code)) = 0 := by
          rw [List.countP_eq_zero]
          intro x hx
          simpa using h1 x hx
        simp [hasN, this]
      refine ⟨by rw [hc, h0]; simp, fun x hx => ?_⟩
      rw [hc, if_neg (fun e => h1 x hx e.symm)]
      have := h2 x hx
      omega
    · rintro ⟨h1, h2⟩
      rw [hc] at h1
      simp at h1
      have h0 : ∀ x ∈ l, x.code ≠ o.code := by
        intro x hx e
        have : 0 < l.countP fun y => decide (y.code = o.code) := List.countP_pos_iff.2 ⟨x, hx, by simpa using e⟩
        simp [hasN] at h1
        omega
      refine ⟨h0, fun x hx => ?_⟩
      have := h2 x hx
      rw [hc, if_neg (fun e => h0 x hx e.symm)] at this
      omega

theorem tlvIs (o : Opt) (c : Int) : Holds Tryd.prog 71 [.d o.d, .cptr [.int .i64 c]] (.d (.bool (decide (o.code = c)))) (fun _ => false) := by
  refine Holds.by (by kernel_rfl) Tryd.func71 (by kernel_rfl) rfl [] (by simp) (by kernel_rfl) (by kernel_rfl) rfl ?_
  conv in ccs _ => cbv
  repeat' (first | (simp (config := sc) (disch := try exact dd) [*, std]) | (refine sel_by ?_ ?_ <;> intro hc <;> have hc2 := hc <;> (try simp only [decide_eq_true_eq, decide_eq_false_iff_not, Bool.and_eq_true, Bool.or_eq_true, Bool.not_eq_true', Bool.not_eq_false', Bool.or_eq_false_iff, Bool.and_eq_false_iff] at hc2) <;> try omega) | (refine cnd_by ?_ ?_ <;> intro hc <;> have hc2 := hc <;> (try simp only [decide_eq_true_eq, decide_eq_false_iff_not, Bool.and_eq_true, Bool.or_eq_true, Bool.not_eq_true', Bool.not_eq_false', Bool.or_eq_false_iff, Bool.and_eq_false_iff] at hc2) <;> try omega) | (refine onSt_if (by omega) ?_) | (split <;> try omega) | omega)
def atI (l : List Opt) (c : Int) (i : Nat) (S : PS) : Prop :=
  i ≤ l.length ∧ (∀ j (hj : j < i) (hl : j < l.length), l[j].code ≠ c) ∧ S.t 5 = .fn 71 [.cptr [.int .i64 c]] ∧ S.t 9 = .d (.slice (l.map Opt.d)) ∧ S.t 10 = .d (.int .i64 l.length) ∧ S.t 11 = .d (.int .i64 i)
theorem tlvAt (l : List Opt) (c : Int) (hl : sized l) : Holds Tryd.prog 55 [.d (.slice (l.map Opt.d)), .d (.int .i64 c)] (.d (.int .i64 (atS l c))) (fun _ => false) := by
  refine Holds.by (by kernel_rfl) Tryd.func55 (by kernel_rfl) rfl [20003] (by simp) (by kernel_rfl) (by kernel_rfl) rfl ?_
  conv in ccs _ => cbv
  have hs := hl.1
  simp (config := sc) (disch := try exact dd) [std]
  refine lp (atI l c) (fun i => l.length - i) 0 ⟨by omega, by simp, by simp⟩ ?_
  rintro i S ⟨hi, hn, e5, e9, e10, e11⟩
  by_cases hlt : i < l.length
  · have k6 : (i : Int) < l.length := by omega
    by_cases hc : l[i].code = c
    · have ha := atS_some l c i hlt (fun j hj => hn j hj (by omega)) hc
      repeat' (first | (simp (config := sc) (disch := try exact dd) [*, std]) | (refine oc (tlvIs ⟨c, l[i].data⟩ c) ?_) | (refine sel_by ?_ ?_ <;> intro hc <;> have hc2 := hc <;> (try simp only [decide_eq_true_eq, decide_eq_false_iff_not, Bool.and_eq_true, Bool.or_eq_true, Bool.not_eq_true', Bool.not_eq_false', Bool.or_eq_false_iff, Bool.and_eq_false_iff] at hc2) <;> try omega) | (refine cnd_by ?_ ?_ <;> intro hc <;> have hc2 := hc <;> (try simp only [decide_eq_true_eq, decide_eq_false_iff_not, Bool.and_eq_true, Bool.or_eq_true, Bool.not_eq_true', Bool.not_eq_false', Bool.or_eq_false_iff, Bool.and_eq_false_iff] at hc2) <;> try omega) | (refine onSt_if (by omega) ?_) | (split <;> try omega) | omega)
    · simp (config := sc) (disch := try exact dd) [std, e5, e9, e10, e11, k6]
      refine oc (tlvIs (l[i]) c) ?_
      simp (config := sc) (disch := try exact dd) [std, e5, e9, e10, e11, k6, hc]
      exact nxt_of (i + 1) ⟨by omega, fun j hj hl => by
        rcases Nat.lt_or_ge j i with h | h
        · exact hn j h hl
        · have : j = i := by omega
          subst this
          exact hc, by simp (config := sc) (disch := try exact dd) [std, e5, e9, e10, e11]⟩ (by omega)
  · have k6 : ¬ (i : Int) < l.length := by omega
    have hneg : atS l c = -1 := by
      have h1 := (atS_none l c).2 fun o ho => by
        obtain ⟨j, hj, rfl⟩ := List.mem_iff_getElem.1 ho
        exact hn j (by omega) hj
      have := atS_rng l c
      omega
    simp (config := sc) (disch := try exact dd) [std, e5, e9, e10, e11, k6, hneg]

theorem tlvFind (l : List Opt) (c : Int) (hl : sized l) : Holds Tryd.prog 31 [.d (.slice (l.map Opt.d)), .d (.int .i64 c)] (.tup [.d (.slice (((findS l c).getD []).map byteD)), .d (.bool (findS l c).isSome)]) (fun _ => false) := by
  refine Holds.by (by kernel_rfl) Tryd.func31 (by kernel_rfl) rfl [] (by simp) (by kernel_rfl) (by kernel_rfl) rfl ?_
  conv in ccs _ => cbv
  have hr := atS_rng l c
  have hf := findS_at l c
  by_cases h0 : atS l c < 0
  · have h1 := hf.1 h0
    repeat' (first | (simp (config := sc) (disch := try exact dd) [*, std]) | (refine oc (tlvAt l c hl) ?_) | (refine sel_by ?_ ?_ <;> intro hc <;> have hc2 := hc <;> (try simp only [decide_eq_true_eq, decide_eq_false_iff_not, Bool.and_eq_true, Bool.or_eq_true, Bool.not_eq_true', Bool.not_eq_false', Bool.or_eq_false_iff, Bool.and_eq_false_iff] at hc2) <;> try omega) | (refine cnd_by ?_ ?_ <;> intro hc <;> have hc2 := hc <;> (try simp only [decide_eq_true_eq, decide_eq_false_iff_not, Bool.and_eq_true, Bool.or_eq_true, Bool.not_eq_true', Bool.not_eq_false', Bool.or_eq_false_iff, Bool.and_eq_false_iff] at hc2) <;> try omega) | (refine onSt_if (by omega) ?_) | (split <;> try omega) | omega)
  · obtain ⟨h2, h3⟩ := hf.2 (by omega)
    obtain ⟨i, hi⟩ := Int.eq_ofNat_of_zero_le (show 0 ≤ atS l c by omega)
    have hi' : (atS l c).toNat = i := by omega
    simp only [hi'] at h2 h3
    have hz := sized_at hl h2
    rw [h3]
    have ht := tlvAt l c hl
    rw [hi] at ht
    repeat' (first | (simp (config := sc) (disch := try exact dd) [*, std]) | (refine oc (ht) ?_) | (refine sel_by ?_ ?_ <;> intro hc <;> have hc2 := hc <;> (try simp only [decide_eq_true_eq, decide_eq_false_iff_not, Bool.and_eq_true, Bool.or_eq_true, Bool.not_eq_true', Bool.not_eq_false', Bool.or_eq_false_iff, Bool.and_eq_false_iff] at hc2) <;> try omega) | (refine cnd_by ?_ ?_ <;> intro hc <;> have hc2 := hc <;> (try simp only [decide_eq_true_eq, decide_eq_false_iff_not, Bool.and_eq_true, Bool.or_eq_true, Bool.not_eq_true', Bool.not_eq_false', Bool.or_eq_false_iff, Bool.and_eq_false_iff] at hc2) <;> try omega) | (refine onSt_if (by omega) ?_) | (split <;> try omega) | omega)

def trO (l : List Opt) (i : Nat) (S : PS) : Prop :=
  i ≤ l.length ∧ (∀ j (hj : j < i) (hl : j < l.length), okO l[j] = true ∧ atS l l[j].code = j) ∧ S.t 0 = .d (.slice (l.map Opt.d)) ∧ S.t 5 = .d (.slice (l.map Opt.d)) ∧ S.t 6 = .d (.int .i64 l.length) ∧ S.t 7 = .d (.int .i64 i)
theorem tlvRight (l : List Opt) (hl : sized l) : Holds Tryd.prog 32 [.d (.slice (l.map Opt.d))] (.d (.bool (rightO l))) (fun _ => false) := by
  refine Holds.by (by kernel_rfl) Tryd.func32 (by kernel_rfl) rfl [] (by simp) (by kernel_rfl) (by kernel_rfl) rfl ?_
  conv in ccs _ => cbv
  have hs := hl.1
  simp (config := sc) (disch := try exact dd) [std]
  refine lp (trO l) (fun i => l.length - i) 0 ⟨by omega, by simp, by simp⟩ ?_
  rintro i S ⟨hi, hn, e0, e5, e6, e7⟩
  by_cases hlt : i < l.length
  · have k6 : (i : Int) < l.length := by omega
    have hz := sized_at hl hlt
    by_cases hc : okO l[i] = true ∧ atS l l[i].code = i
    · obtain ⟨hc1, hc2⟩ := hc
      have hc3 : (1 ≤ l[i].code ∧ l[i].code ≤ 254) ∧ l[i].data.length ≤ 600 := by simpa [okO] using hc1
      have k1 : ¬ l[i].code ≤ 0 := by omega
      have k2 : ¬ 255 ≤ l[i].code := by omega
      have k3 : ¬ (600 : Int) < l[i].data.length := by omega
      have ha := tlvAt l l[i].code hl
      rw [hc2] at ha
      simp (config := sc) (disch := try exact dd) [std, e0, e5, e6, e7, k6, k1, k2, k3]
      refine oc ha ?_
      simp (config := sc) (disch := try exact dd) [std, e0, e5, e6, e7, k6, k1, k2, k3]
      exact nxt_of (i + 1) ⟨by omega, fun j hj hl => by
        rcases Nat.lt_or_ge j i with h | h
        · exact hn j h hl
        · have : j = i := by omega
          subst this
          exact ⟨hc1, hc2⟩, by simp (config := sc) (disch := try exact dd) [std, e0, e5, e6, e7]⟩ (by omega)
    · have hf : rightO l = false := by
        rw [Bool.eq_false_iff]
        intro h
        simp only [rightO, Bool.and_eq_true, decide_eq_true_eq, List.all_eq_true] at h
        exact hc ⟨h.1.2 _ (List.getElem_mem hlt), (nodup_at l).1 h.2 i hlt⟩
      rw [hf]
      have hc' : ¬ ((1 ≤ l[i].code ∧ l[i].code ≤ 254) ∧ l[i].data.length ≤ 600) ∨ atS l l[i].code ≠ i := by
        by_cases h1 : okO l[i] = true
        · exact .inr fun e => hc ⟨h1, e⟩
        · refine .inl fun e => h1 ?_
          simpa [okO] using e
      clear hc
      by_cases k1 : l[i].code ≤ 0
      · simp (config := sc) (disch := try exact dd) [std, e0, e5, e6, e7, k6, k1]
      · by_cases k2 : 255 ≤ l[i].code
        · simp (config := sc) (disch := try exact dd) [std, e0, e5, e6, e7, k6, k1, k2]
        · by_cases k3 : (600 : Int) < l[i].data.length
          · simp (config := sc) (disch := try exact dd) [std, e0, e5, e6, e7, k6, k1, k2, k3]
          · have k4 : ¬ atS l l[i].code = i := by
              rcases hc' with h | h
              · omega
              · exact h
            simp (config := sc) (disch := try exact dd) [std, e0, e5, e6, e7, k6, k1, k2, k3]
            refine oc (tlvAt l l[i].code hl) ?_
            simp (config := sc) (disch := try exact dd) [std, e0, e5, e6, e7, k6, k1, k2, k3, k4]
  · have k6 : ¬ (i : Int) < l.length := by omega
    have h1 : rightO l = decide ((l.length : Int) ≤ 60) := by
      have h2 : l.all okO = true := by
        rw [List.all_eq_true]
        intro o ho
        obtain ⟨j, hj, rfl⟩ := List.mem_iff_getElem.1 ho
        exact (hn j (by omega) hj).1
      have h3 : (l.map Opt.code).Nodup := (nodup_at l).2 fun j hj => (hn j (by omega) hj).2
      simp only [rightO, h2, h3, decide_true, Bool.and_true]
      rw [Bool.eq_iff_iff]
      simp
      omega
    simp (config := sc) (disch := try exact dd) [std, e0, e5, e6, e7, k6, h1]

def rhI (l : List Opt) (c : Int) (i : Nat) (S : PS) : Prop :=
  i ≤ l.length ∧ S.t 0 = .d (.slice (l.map Opt.d)) ∧ S.t 1 = .d (.int .i64 c) ∧ S.t 6 = .d (.int .i64 i) ∧ S.t 5 = .d (.int .i64 (hasN (l.take i) c))
theorem hasN_take (l : List Opt) (c : Int) {i : Nat} (h : i < l.length) : hasN (l.take (i + 1)) c = hasN (l.take i) c + if l[i].code = c then 1 else 0 := by
  unfold hasN
  rw [List.take_succ_eq_append_getElem h, List.countP_append]
  by_cases e : l[i].code = c <;> simp [List.countP_cons, e]
theorem hasN_le (l : List Opt) (c : Int) : 0 ≤ hasN l c ∧ hasN l c ≤ l.length := by
  have := List.countP_le_length (p := fun o : Opt => decide (o.code = c)) (l := l)
  unfold hasN
  omega
theorem ref03Has (l : List Opt) (c : Int) (hl : sized l) : Holds Tryd.prog 22 [.d (.slice (l.map Opt.d)), .d (.int .i64 c)] (.d (.int .i64 (hasN l c))) (fun _ => false) := by
  refine Holds.by (by kernel_rfl) Tryd.func22 (by kernel_rfl) rfl [] (by simp) (by kernel_rfl) (by kernel_rfl) rfl ?_
  conv in ccs _ => cbv
  have hs := hl.1
  simp (config := sc) (disch := try exact dd) [std]
  refine lp (rhI l c) (fun i => l.length - i) 0 ⟨by omega, by simp [hasN]⟩ ?_
  rintro i S ⟨hi, e0, e1, e6, e5⟩
  by_cases hlt : i < l.length
  · have k6 : (i : Int) < l.length := by omega
    have hb := hasN_le (l.take i) c
    have hb2 : ((l.take i).length : Int) ≤ l.length := by simp; omega
    have ht := hasN_take l c hlt
    by_cases hc : l[i].code = c
    · rw [if_pos hc] at ht
      simp (config := sc) (disch := try exact dd) [std, e0, e1, e5, e6, k6, hc]
      exact nxt_of (i + 1) ⟨by omega, by simp (config := sc) (disch := try exact dd) [*, std, ht]⟩ (by omega)
    · rw [if_neg hc] at ht
      simp (config := sc) (disch := try exact dd) [std, e0, e1, e5, e6, k6, hc]
      exact nxt_of (i + 1) ⟨by omega, by simp (config := sc) (disch := try exact dd) [*, std, ht]⟩ (by omega)
  · have k6 : ¬ (i : Int) < l.length := by omega
    have : l.take i = l := List.take_of_length_le (by omega)
    simp (config := sc) (disch := try exact dd) [std, e0, e1, e5, e6, k6, this]

def rrI (l : List Opt) (i : Nat) (S : PS) : Prop :=
  i ≤ l.length ∧ (∀ j (hj : j < i) (hl : j < l.length), okO l[j] = true ∧ hasN l l[j].code ≤ 1) ∧ S.t 0 = .d (.slice (l.map Opt.d)) ∧ S.t 3 = .d (.int .i64 i)
theorem ref03Right (l : List Opt) (hl : sized l) : Holds Tryd.prog 21 [.d (.slice (l.map Opt.d))] (.d (.bool (rightO l))) (fun _ => false) := by
  refine Holds.by (by kernel_rfl) Tryd.func21 (by kernel_rfl) rfl [] (by simp) (by kernel_rfl) (by kernel_rfl) rfl ?_
  conv in ccs _ => cbv
  have hs := hl.1
  by_cases hbig : (60 : Int) < l.length
  · have hf : rightO l = false := by
      have : ¬ l.length ≤ 60 := by omega
      simp [rightO, this]
    simp (config := sc) (disch := try exact dd) [std, hbig, hf]
  have hsm : l.length ≤ 60 := by omega
  simp (config := sc) (disch := try exact dd) [std, hbig]
  refine lp (rrI l) (fun i => l.length - i) 0 ⟨by omega, by simp, by simp⟩ ?_
  rintro i S ⟨hi, hn, e0, e3⟩
  by_cases hlt : i < l.length
  · have k6 : (i : Int) < l.length := by omega
    have hz := sized_at hl hlt
    by_cases hc : okO l[i] = true ∧ hasN l l[i].code ≤ 1
    · obtain ⟨hc1, hc2⟩ := hc
      have hc3 : (1 ≤ l[i].code ∧ l[i].code ≤ 254) ∧ l[i].data.length ≤ 600 := by simpa [okO] using hc1
      have k1 : ¬ l[i].code < 1 := by omega
      have k2 : ¬ 254 < l[i].code := by omega
      have k3 : ¬ (600 : Int) < l[i].data.length := by omega
      have k4 : ¬ 1 < hasN l l[i].code := by omega
      simp (config := sc) (disch := try exact dd) [std, e0, e3, k6, k1, k2, k3]
      refine oc (ref03Has l l[i].code hl) ?_
      simp (config := sc) (disch := try exact dd) [std, e0, e3, k6, k1, k2, k3, k4]
      exact nxt_of (i + 1) ⟨by omega, fun j hj hl => by
        rcases Nat.lt_or_ge j i with h | h
        · exact hn j h hl
        · have : j = i := by omega
          subst this
          exact ⟨hc1, hc2⟩, by simp (config := sc) (disch := try exact dd) [std, e0, e3]⟩ (by omega)
    · have hf : rightO l = false := by
        rw [Bool.eq_false_iff]
        intro h
        simp only [rightO, Bool.and_eq_true, decide_eq_true_eq, List.all_eq_true] at h
        exact hc ⟨h.1.2 _ (List.getElem_mem hlt), (nodup_has l).1 h.2 _ (List.getElem_mem hlt)⟩
      rw [hf]
      have hc' : ¬ ((1 ≤ l[i].code ∧ l[i].code ≤ 254) ∧ l[i].data.length ≤ 600) ∨ ¬ hasN l l[i].code ≤ 1 := by
        by_cases h1 : okO l[i] = true
        · exact .inr fun e => hc ⟨h1, e⟩
        · refine .inl fun e => h1 ?_
          simpa [okO] using e
      clear hc
      by_cases k1 : l[i].code < 1
      · simp (config := sc) (disch := try exact dd) [std, e0, e3, k6, k1]
      · by_cases k2 : 254 < l[i].code
        · simp (config := sc) (disch := try exact dd) [std, e0, e3, k6, k1, k2]
        · by_cases k3 : (600 : Int) < l[i].data.length
          · simp (config := sc) (disch := try exact dd) [std, e0, e3, k6, k1, k2, k3]
          · have k4 : 1 < hasN l l[i].code := by
              rcases hc' with h | h <;> omega
            simp (config := sc) (disch := try exact dd) [std, e0, e3, k6, k1, k2, k3]
            refine oc (ref03Has l l[i].code hl) ?_
            simp (config := sc) (disch := try exact dd) [std, e0, e3, k6, k1, k2, k3, k4]
  · have k6 : ¬ (i : Int) < l.length := by omega
    have h1 : rightO l = true := by
      have h2 : l.all okO = true := by
        rw [List.all_eq_true]
        intro o ho
        obtain ⟨j, hj, rfl⟩ := List.mem_iff_getElem.1 ho
        exact (hn j (by omega) hj).1
      have h3 : (l.map Opt.code).Nodup := (nodup_has l).2 fun o ho => by
        obtain ⟨j, hj, rfl⟩ := List.mem_iff_getElem.1 ho
        exact (hn j (by omega) hj).2
      simp [rightO, h2, h3, hsm]
    simp (config := sc) (disch := try exact dd) [std, e0, e3, k6, h1]

def rfI (l : List Opt) (c : Int) (i : Nat) (S : PS) : Prop :=
  i ≤ l.length ∧ (∀ j (hj : j < i) (hl : j < l.length), l[j].code ≠ c) ∧ S.t 0 = .d (.slice (l.map Opt.d)) ∧ S.t 1 = .d (.int .i64 c) ∧ S.t 6 = .d (.int .i64 i)
theorem ref03Find (l : List Opt) (c : Int) (hl : sized l) : Holds Tryd.prog 63 [.d (.slice (l.map Opt.d)), .d (.int .i64 c)] (.tup [.d (.slice (((findS l c).getD []).map byteD)), .d (.bool (findS l c).isSome)]) (fun _ => false) := by
  refine Holds.by (by kernel_rfl) Tryd.func63 (by kernel_rfl) rfl [] (by simp) (by kernel_rfl) (by kernel_rfl) rfl ?_
  conv in ccs _ => cbv
  have hs := hl.1
  simp (config := sc) (disch := try exact dd) [std]
  refine lp (rfI l c) (fun i => l.length - i) 0 ⟨by omega, by simp, by simp⟩ ?_
  rintro i S ⟨hi, hn, e0, e1, e6⟩
  have hfa := findS_at l c
  by_cases hlt : i < l.length
  · have k6 : (i : Int) < l.length := by omega
    by_cases hc : l[i].code = c
    · have ha := atS_some l c i hlt (fun j hj => hn j hj (by omega)) hc
      obtain ⟨h2, h3⟩ := hfa.2 (by omega)
      have hi' : (atS l c).toNat = i := by omega
      simp only [hi'] at h2 h3
      rw [h3]
      simp (config := sc) (disch := try exact dd) [std, e0, e1, e6, k6, hc]
    · simp (config := sc) (disch := try exact dd) [std, e0, e1, e6, k6, hc]
      exact nxt_of (i + 1) ⟨by omega, fun j hj hl => by
        rcases Nat.lt_or_ge j i with h | h
        · exact hn j h hl
        · have : j = i := by omega
          subst this
          exact hc, by simp (config := sc) (disch := try exact dd) [std, e0, e1, e6]⟩ (by omega)
  · have k6 : ¬ (i : Int) < l.length := by omega
    have hneg : findS l c = none := hfa.1 ((atS_none l c).2 fun o ho => by
        obtain ⟨j, hj, rfl⟩ := List.mem_iff_getElem.1 ho
        exact hn j (by omega) hj)
    simp (config := sc) (disch := try exact dd) [std, e0, e1, e6, k6, hneg]

end Go.Proofs.YtimlalndjfmnbaaDoor
