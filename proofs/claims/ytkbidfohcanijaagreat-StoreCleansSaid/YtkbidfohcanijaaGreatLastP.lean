/- The last leases, in plain terms. -/
import Derived.Test.YtkbidfohcanijaaGreatKey
namespace Go.Proofs.YtkbidfohcanijaaGreat
open BoEng Go
set_option maxRecDepth 100000
set_option linter.unusedSimpArgs false
set_option linter.unusedVariables false

/-- Where an address stands among leases in order, or would. -/
def posA (xs : List LeaseR) (a : Int) : Nat := (xs.takeWhile fun b => decide (b.addr < a)).length
def isA (xs : List LeaseR) (a : Int) : Bool := decide (posA xs a < xs.length) && decide ((xs.getD (posA xs a) default).addr = a)
/-- A lease is put among leases in order. -/
def insL (xs : List LeaseR) (l : LeaseR) : List LeaseR := if isA xs l.addr = true then xs.set (posA xs l.addr) l else xs.take (posA xs l.addr) ++ l :: xs.drop (posA xs l.addr)
def lastL (ls : List LeaseR) : List LeaseR := ls.foldl insL []
def SrtA (xs : List LeaseR) : Prop := xs.Pairwise fun a b => a.addr < b.addr
theorem lastL_snoc (ls : List LeaseR) (l : LeaseR) : lastL (ls ++ [l]) = insL (lastL ls) l := by simp [lastL]
theorem posA_le (xs : List LeaseR) (a : Int) : posA xs a ≤ xs.length := (List.takeWhile_sublist _).length_le
theorem posA_lt {xs : List LeaseR} {a : Int} {j : Nat} (h : j < posA xs a) (hl : j < xs.length) : xs[j].addr < a := by
  have h1 : (xs.takeWhile fun b => decide (b.addr < a)) = xs.take (posA xs a) := List.prefix_iff_eq_take.1 (List.takeWhile_prefix (l := xs) (fun b => decide (b.addr < a)))
  have h2 : xs[j] ∈ xs.takeWhile fun b => decide (b.addr < a) := by
    rw [h1, List.mem_take_iff_getElem]
    exact ⟨j, by omega, rfl⟩
  have h3 := List.all_eq_true.1 (List.all_takeWhile (l := xs) (p := fun b => decide (b.addr < a))) _ h2
  simpa using h3
theorem posA_at {xs : List LeaseR} {a : Int} (h : posA xs a < xs.length) : a ≤ xs[posA xs a].addr := by
  have h1 := List.takeWhile_append_dropWhile (l := xs) (p := fun b => decide (b.addr < a))
  have h2 : (xs.dropWhile fun b => decide (b.addr < a)) = xs.drop (posA xs a) := by
    have h3 := congrArg (List.drop (posA xs a)) h1
    unfold posA at h3 ⊢
    rw [List.drop_left] at h3
    exact h3
  have h4 : (xs.dropWhile fun b => decide (b.addr < a)).head? = some xs[posA xs a] := by
    rw [h2, List.head?_drop]
    simp [h]
  have h5 := List.head?_dropWhile_not (fun b : LeaseR => decide (b.addr < a)) xs
  rw [h4] at h5
  simp at h5
  exact h5
theorem posA_eq {xs : List LeaseR} {a : Int} {i : Nat} (hi : i ≤ xs.length) (h1 : ∀ j (h : j < xs.length), j < i → xs[j].addr < a) (h2 : ∀ h : i < xs.length, a ≤ xs[i].addr) : posA xs a = i := by
  rcases Nat.lt_trichotomy (posA xs a) i with h | h | h
  · have h3 : posA xs a < xs.length := by omega
    have := h1 _ h3 h
    have := posA_at h3
    omega
  · exact h
  · have h3 : i < xs.length := by have := posA_le xs a; omega
    have := posA_lt h h3
    have := h2 h3
    omega
theorem srtA_lt {xs : List LeaseR} (h : SrtA xs) {i j : Nat} (hj : j < xs.length) (hij : i < j) : (xs[i]'(by omega)).addr < xs[j].addr := (List.pairwise_iff_getElem.1 h) i j (by omega) hj hij
theorem srtA_inj {xs : List LeaseR} (h : SrtA xs) {i j : Nat} (hi : i < xs.length) (hj : j < xs.length) (e : xs[i].addr = xs[j].addr) : i = j := by
  rcases Nat.lt_trichotomy i j with h1 | h1 | h1
  · have := srtA_lt h hj h1; omega
  · exact h1
  · have := srtA_lt h hi h1; omega
theorem isA_iff {xs : List LeaseR} (h : SrtA xs) {a : Int} : isA xs a = true ↔ ∃ b ∈ xs, b.addr = a := by
  constructor
  · intro h1
    simp only [isA, Bool.and_eq_true, decide_eq_true_eq] at h1
    obtain ⟨h2, h3⟩ := h1
    rw [List.getD_eq_getElem?_getD, List.getElem?_eq_getElem h2] at h3
    exact ⟨_, List.getElem_mem h2, h3⟩
  · rintro ⟨b, hb, rfl⟩
    obtain ⟨i, hi, rfl⟩ := List.mem_iff_getElem.1 hb
    have : posA xs xs[i].addr = i := posA_eq (by omega) (fun j hj hji => srtA_lt h hi hji) (fun _ => Int.le_refl _)
    simp only [isA, this, hi, decide_true, List.getD_eq_getElem?_getD, List.getElem?_eq_getElem hi, Option.getD_some, Bool.and_self]
theorem isA_pos {xs : List LeaseR} {a : Int} (h : isA xs a = true) : ∃ hl : posA xs a < xs.length, xs[posA xs a].addr = a := by
  simp only [isA, Bool.and_eq_true, decide_eq_true_eq] at h
  obtain ⟨h2, h3⟩ := h
  rw [List.getD_eq_getElem?_getD, List.getElem?_eq_getElem h2] at h3
  exact ⟨h2, h3⟩
theorem insL_spec {xs : List LeaseR} (h : SrtA xs) (l : LeaseR) : SrtA (insL xs l) ∧ ∀ b, b ∈ insL xs l ↔ b = l ∨ (b ∈ xs ∧ b.addr ≠ l.addr) := by
  unfold insL
  split
  · rename_i hc
    obtain ⟨hl, he⟩ := isA_pos hc
    constructor
    · unfold SrtA
      rw [List.pairwise_iff_getElem]
      intro i j hi hj hij
      simp only [List.length_set] at hi hj
      simp only [List.getElem_set]
      have := srtA_lt h hj hij
      split
      · rename_i e
        subst e
        rw [if_neg (by omega)]
        omega
      · split
        · rename_i e
          subst e
          omega
        · exact this
    · intro b
      constructor
      · intro hb
        rw [List.mem_iff_getElem] at hb
        obtain ⟨i, hi, rfl⟩ := hb
        simp only [List.length_set] at hi
        simp only [List.getElem_set]
        split
        · exact .inl rfl
        · rename_i hne
          refine .inr ⟨List.getElem_mem _, fun e => hne ?_⟩
          exact srtA_inj h hl hi (by rw [he, e])
      · rintro (rfl | ⟨hb, hne⟩)
        · exact List.mem_iff_getElem.2 ⟨posA xs b.addr, by simpa using hl, by simp⟩
        · obtain ⟨i, hi, rfl⟩ := List.mem_iff_getElem.1 hb
          refine List.mem_iff_getElem.2 ⟨i, by simpa using hi, ?_⟩
          rw [List.getElem_set_ne]
          intro e
          subst e
          exact hne he
  · rename_i hc
    have hno : ∀ b ∈ xs, b.addr ≠ l.addr := fun b hb e => hc ((isA_iff h).2 ⟨b, hb, e⟩)
    have hlo : ∀ b ∈ xs.take (posA xs l.addr), b.addr < l.addr := by
      intro b hb
      obtain ⟨j, hj, rfl⟩ := List.mem_take_iff_getElem.1 hb
      exact posA_lt (by omega) (by omega)
    have hhi : ∀ b ∈ xs.drop (posA xs l.addr), l.addr < b.addr := by
      intro b hb
      obtain ⟨j, hj, rfl⟩ := List.mem_drop_iff_getElem.1 hb
      have ha : posA xs l.addr < xs.length := by omega
      have h0 := posA_at ha
      have h1 := hno _ (List.getElem_mem ha)
      by_cases e0 : j = 0
      · subst e0; simp only [Nat.add_zero]; omega
      · have := srtA_lt (i := posA xs l.addr) (j := posA xs l.addr + j) h (by omega) (by omega)
        omega
    constructor
    · unfold SrtA
      rw [List.pairwise_append]
      refine ⟨List.Pairwise.sublist (List.take_sublist _ _) h, List.pairwise_cons.2 ⟨hhi, List.Pairwise.sublist (List.drop_sublist _ _) h⟩, fun a ha b hb => ?_⟩
      rcases List.mem_cons.1 hb with rfl | hb
      · exact hlo a ha
      · have := hlo a ha
        have := hhi b hb
        omega
    · intro b
      rw [List.mem_append, List.mem_cons]
      have hm : b ∈ xs ↔ b ∈ xs.take (posA xs l.addr) ∨ b ∈ xs.drop (posA xs l.addr) := by
        rw [← List.mem_append, List.take_append_drop]
      constructor
      · rintro (hb | rfl | hb)
        · exact .inr ⟨hm.2 (.inl hb), hno _ (hm.2 (.inl hb))⟩
        · exact .inl rfl
        · exact .inr ⟨hm.2 (.inr hb), hno _ (hm.2 (.inr hb))⟩
      · rintro (rfl | ⟨hb, _⟩)
        · exact .inr (.inl rfl)
        · rcases hm.1 hb with h1 | h1
          · exact .inl h1
          · exact .inr (.inr h1)
/-- A lease with none of its address behind it. -/
def LastOf (ls : List LeaseR) (b : LeaseR) : Prop := ∃ p q, ls = p ++ b :: q ∧ ∀ c ∈ q, c.addr ≠ b.addr
theorem lastOf_snoc {ls : List LeaseR} {l b : LeaseR} : LastOf (ls ++ [l]) b ↔ b = l ∨ (LastOf ls b ∧ b.addr ≠ l.addr) := by
  constructor
  · rintro ⟨p, q, e, hq⟩
    by_cases h : q = []
    · subst h
      have := List.append_inj' e rfl
      exact .inl (by have := this.2; simp at this; exact this.symm)
    · obtain ⟨q', x, rfl⟩ : ∃ q' x, q = q' ++ [x] := ⟨q.dropLast, q.getLast h, (List.dropLast_concat_getLast h).symm⟩
      rw [← List.cons_append, ← List.append_assoc] at e
      obtain ⟨e1, e2⟩ := List.append_inj' e rfl
      simp at e2
      subst e2
      exact .inr ⟨⟨p, q', e1, fun c hc => hq c (by simp [hc])⟩, fun e => hq l (by simp) e.symm⟩
  · rintro (rfl | ⟨⟨p, q, e, hq⟩, hne⟩)
    · exact ⟨ls, [], rfl, by simp⟩
    · refine ⟨p, q ++ [l], by rw [e]; simp, fun c hc => ?_⟩
      rcases List.mem_append.1 hc with h | h
      · exact hq c h
      · simp at h; subst h; exact fun e => hne e.symm
theorem lastL_ind {p : List LeaseR → Prop} (h0 : p []) (hs : ∀ l x, p l → p (l ++ [x])) : ∀ l, p l := by
  intro l
  have : ∀ n (l : List LeaseR), l.length = n → p l := by
    intro n
    induction n with
    | zero => intro l h; rw [List.eq_nil_of_length_eq_zero h]; exact h0
    | succ n ih =>
      intro l h
      have hne : l ≠ [] := fun e => by subst e; simp at h
      rw [← List.dropLast_concat_getLast hne]
      exact hs _ _ (ih _ (by simp [h]))
  exact this l.length l rfl
theorem lastL_spec (ls : List LeaseR) : SrtA (lastL ls) ∧ ∀ b, b ∈ lastL ls ↔ LastOf ls b := by
  induction ls using lastL_ind with
  | h0 =>
    refine ⟨List.Pairwise.nil, fun b => ⟨fun h => by simp [lastL] at h, ?_⟩⟩
    rintro ⟨p, q, e, _⟩
    simp at e
  | hs ls l ih =>
    obtain ⟨h1, h2⟩ := insL_spec ih.1 l
    rw [lastL_snoc]
    refine ⟨h1, fun b => ?_⟩
    rw [h2, lastOf_snoc, ih.2]
theorem srtA_ext : ∀ {xs ys : List LeaseR}, SrtA xs → SrtA ys → (∀ b, b ∈ xs ↔ b ∈ ys) → xs = ys
  | [], [], _, _, _ => rfl
  | [], y :: ys, _, _, h => by have := (h y).2 (by simp); simp at this
  | x :: xs, [], _, _, h => by have := (h x).1 (by simp); simp at this
  | x :: xs, y :: ys, hx, hy, h => by
    have hx' := List.pairwise_cons.1 hx
    have hy' := List.pairwise_cons.1 hy
    have e : x = y := by
      have h1 := (h x).1 (by simp)
      have h2 := (h y).2 (by simp)
      rcases List.mem_cons.1 h1 with h1 | h1
      · exact h1
      · rcases List.mem_cons.1 h2 with h2 | h2
        · exact h2.symm
        · have := hy'.1 x h1
          have := hx'.1 y h2
          omega
    subst e
    congr 1
    refine srtA_ext hx'.2 hy'.2 fun b => ?_
    have hb := h b
    rw [List.mem_cons, List.mem_cons] at hb
    constructor
    · intro hm
      rcases hb.1 (.inr hm) with rfl | h1
      · have := hx'.1 _ hm; omega
      · exact h1
    · intro hm
      rcases hb.2 (.inr hm) with rfl | h1
      · have := hy'.1 _ hm; omega
      · exact h1
theorem lastOf_srt {xs : List LeaseR} (h : SrtA xs) {b : LeaseR} : LastOf xs b ↔ b ∈ xs := by
  constructor
  · rintro ⟨p, q, rfl, _⟩; simp
  · intro hb
    obtain ⟨p, q, rfl⟩ := List.append_of_mem hb
    refine ⟨p, q, rfl, fun c hc => ?_⟩
    have := (List.pairwise_append.1 h).2.1
    have := (List.pairwise_cons.1 this).1 c hc
    omega
/-- The last leases of last leases are these. -/
theorem lastL_srt {xs : List LeaseR} (h : SrtA xs) : lastL xs = xs := by
  obtain ⟨h1, h2⟩ := lastL_spec xs
  exact srtA_ext h1 h fun b => by rw [h2, lastOf_srt h]
theorem lastL_again (ls : List LeaseR) : lastL (lastL ls) = lastL ls := lastL_srt (lastL_spec ls).1
theorem lastOf_app {xs ys : List LeaseR} {b : LeaseR} : LastOf (xs ++ ys) b ↔ LastOf ys b ∨ (LastOf xs b ∧ ∀ c ∈ ys, c.addr ≠ b.addr) := by
  induction ys using lastL_ind with
  | h0 =>
    rw [List.append_nil]
    constructor
    · exact fun h => .inr ⟨h, by simp⟩
    · rintro (⟨p, q, e, _⟩ | ⟨h, _⟩)
      · simp at e
      · exact h
  | hs ys l ih =>
    rw [← List.append_assoc, lastOf_snoc, ih, lastOf_snoc]
    constructor
    · rintro (rfl | ⟨h | ⟨h, hn⟩, hne⟩)
      · exact .inl (.inl rfl)
      · exact .inl (.inr ⟨h, hne⟩)
      · refine .inr ⟨h, fun c hc => ?_⟩
        rcases List.mem_append.1 hc with h1 | h1
        · exact hn c h1
        · simp at h1; subst h1; exact fun e => hne e.symm
    · rintro ((rfl | ⟨h, hne⟩) | ⟨h, hn⟩)
      · exact .inl rfl
      · exact .inr ⟨.inl h, hne⟩
      · exact .inr ⟨.inr ⟨h, fun c hc => hn c (by simp [hc])⟩, fun e => hn l (by simp) e.symm⟩
theorem lastOf_mem {ls : List LeaseR} {b : LeaseR} (h : LastOf ls b) : b ∈ ls := by
  obtain ⟨p, q, rfl, _⟩ := h
  simp
theorem lastOf_ex {ls : List LeaseR} : ∀ {b : LeaseR}, b ∈ ls → ∃ c, LastOf ls c ∧ c.addr = b.addr := by
  induction ls using lastL_ind with
  | h0 => intro b h; simp at h
  | hs ls l ih =>
    intro b hb
    by_cases e : b.addr = l.addr
    · exact ⟨l, lastOf_snoc.2 (.inl rfl), e.symm⟩
    · rcases List.mem_append.1 hb with h | h
      · obtain ⟨c, hc, he⟩ := ih h
        exact ⟨c, lastOf_snoc.2 (.inr ⟨hc, by rw [he]; exact e⟩), he⟩
      · simp at h; subst h; exact absurd rfl e
theorem lastL_twice (ls : List LeaseR) : lastL (ls ++ lastL ls) = lastL ls := by
  obtain ⟨h1, h2⟩ := lastL_spec (ls ++ lastL ls)
  obtain ⟨h3, h4⟩ := lastL_spec ls
  refine srtA_ext h1 h3 fun b => ?_
  rw [h2, lastOf_app, lastOf_srt h3]
  constructor
  · rintro (h | ⟨h, hn⟩)
    · exact h
    · exact absurd rfl (hn b ((h4 b).2 h))
  · exact .inl
theorem insL_len (xs : List LeaseR) (l : LeaseR) : (insL xs l).length = if isA xs l.addr = true then xs.length else xs.length + 1 := by
  unfold insL
  have := posA_le xs l.addr
  split
  · simp
  · simp; omega
theorem lastL_len (ls : List LeaseR) : (lastL ls).length ≤ ls.length := by
  induction ls using lastL_ind with
  | h0 => simp [lastL]
  | hs ls l ih =>
    rw [lastL_snoc, insL_len, List.length_append]
    simp only [List.length_cons, List.length_nil]
    split <;> omega
theorem lastL_mem {ls : List LeaseR} {b : LeaseR} (h : b ∈ lastL ls) : b ∈ ls := lastOf_mem (((lastL_spec ls).2 b).1 h)

/-! ### by definition: those with none behind, the least address first -/
def leftL : List LeaseR → List LeaseR
  | [] => []
  | a :: r => if r.any (fun b => decide (b.addr = a.addr)) = true then leftL r else a :: leftL r
theorem leftL_cons (a : LeaseR) (r : List LeaseR) : leftL (a :: r) = if r.any (fun b => decide (b.addr = a.addr)) = true then leftL r else a :: leftL r := rfl
theorem leftL_mem : ∀ {ls : List LeaseR} {b : LeaseR}, b ∈ leftL ls ↔ LastOf ls b
  | [], b => by
    constructor
    · intro h; simp [leftL] at h
    · rintro ⟨p, q, e, _⟩; simp at e
  | a :: r, b => by
    have ih := leftL_mem (ls := r) (b := b)
    have hc : LastOf (a :: r) b ↔ LastOf r b ∨ (b = a ∧ ∀ c ∈ r, c.addr ≠ a.addr) := by
      rw [show a :: r = [a] ++ r from rfl, lastOf_app]
      constructor
      · rintro (h | ⟨h, hn⟩)
        · exact .inl h
        · have e : b = a := by have := lastOf_mem h; simpa using this
          subst e
          exact .inr ⟨rfl, hn⟩
      · rintro (h | ⟨rfl, hn⟩)
        · exact .inl h
        · exact .inr ⟨⟨[], [], rfl, by simp⟩, hn⟩
    rw [hc, ← ih, leftL_cons]
    split
    · rename_i h
      obtain ⟨c, hcm, he⟩ := List.any_eq_true.1 h
      simp only [decide_eq_true_eq] at he
      constructor
      · exact .inl
      · rintro (h | ⟨_, hn⟩)
        · exact h
        · exact absurd he (hn c hcm)
    · rename_i h
      have hn : ∀ c ∈ r, c.addr ≠ a.addr := by
        intro c hcm e
        exact h (List.any_eq_true.2 ⟨c, hcm, by simpa using e⟩)
      rw [List.mem_cons]
      constructor
      · rintro (rfl | h)
        · exact .inr ⟨rfl, hn⟩
        · exact .inl h
      · rintro (h | ⟨rfl, _⟩)
        · exact .inr h
        · exact .inl rfl
theorem leftL_nd : ∀ ls : List LeaseR, (leftL ls).Pairwise fun a b => a.addr ≠ b.addr
  | [] => List.Pairwise.nil
  | a :: r => by
    have ih := leftL_nd r
    rw [leftL_cons]
    split
    · exact ih
    · rename_i h
      refine List.pairwise_cons.2 ⟨fun b hb e => ?_, ih⟩
      have := lastOf_mem (leftL_mem.1 hb)
      exact h (List.any_eq_true.2 ⟨b, this, by simpa using e.symm⟩)
/-- The place of the least address; of the first one, where there are more. -/
def bestL (xs : List LeaseR) : Nat → Nat
  | 0 => 0
  | i + 1 => if (xs.getD i default).addr < (xs.getD (bestL xs i) default).addr then i else bestL xs i
theorem bestL_lt {xs : List LeaseR} (h : 0 < xs.length) : ∀ i, i ≤ xs.length → bestL xs i < xs.length
  | 0, _ => h
  | i + 1, hi => by
    unfold bestL
    split
    · omega
    · exact bestL_lt h i (by omega)
theorem bestL_min {xs : List LeaseR} : ∀ i, ∀ j, j < i → (xs.getD (bestL xs i) default).addr ≤ (xs.getD j default).addr
  | 0, j, h => by omega
  | i + 1, j, h => by
    have ih := bestL_min (xs := xs) i
    unfold bestL
    split
    · rename_i hc
      by_cases e : j = i
      · subst e; exact Int.le_refl _
      · have := ih j (by omega)
        omega
    · rename_i hc
      by_cases e : j = i
      · subst e; omega
      · exact ih j (by omega)
def selL : Nat → List LeaseR → List LeaseR → List LeaseR
  | 0, _, out => out
  | k + 1, xs, out => if 0 < xs.length then selL k (xs.take (bestL xs xs.length) ++ xs.drop (bestL xs xs.length + 1)) (out ++ [xs.getD (bestL xs xs.length) default]) else out
theorem selL_spec : ∀ (k : Nat) (xs out : List LeaseR), xs.length ≤ k → (xs.Pairwise fun a b => a.addr ≠ b.addr) → SrtA out → (∀ a ∈ out, ∀ b ∈ xs, a.addr < b.addr) →
    SrtA (selL k xs out) ∧ ∀ b, b ∈ selL k xs out ↔ b ∈ out ∨ b ∈ xs
  | 0, xs, out, hk, hn, hs, hlt => by
    have : xs = [] := List.eq_nil_of_length_eq_zero (by omega)
    subst this
    exact ⟨hs, fun b => by simp [selL]⟩
  | k + 1, xs, out, hk, hn, hs, hlt => by
    unfold selL
    by_cases h : 0 < xs.length
    · rw [if_pos h]
      have hb := bestL_lt h xs.length (Nat.le_refl _)
      have hmin := bestL_min (xs := xs) xs.length
      generalize bestL xs xs.length = i at *
      have hg : xs.getD i default = xs[i] := by rw [List.getD_eq_getElem?_getD, List.getElem?_eq_getElem hb, Option.getD_some]
      rw [hg] at hmin ⊢
      have hsplit : xs = xs.take i ++ xs[i] :: xs.drop (i + 1) := by rw [← List.drop_eq_getElem_cons hb, List.take_append_drop]
      have hmem : ∀ b, b ∈ xs ↔ b = xs[i] ∨ b ∈ xs.take i ++ xs.drop (i + 1) := by
        intro b
        conv => lhs; rw [hsplit]
        simp only [List.mem_append, List.mem_cons]
        constructor
        · rintro (h | h | h)
          · exact .inr (.inl h)
          · exact .inl h
          · exact .inr (.inr h)
        · rintro (h | h | h)
          · exact .inr (.inl h)
          · exact .inl h
          · exact .inr (.inr h)
      have hne : ∀ b ∈ xs.take i ++ xs.drop (i + 1), xs[i].addr < b.addr := by
        intro b hb2
        have h1 : xs[i].addr ≤ b.addr := by
          obtain ⟨j, hj, e⟩ := List.mem_iff_getElem.1 ((hmem b).2 (.inr hb2))
          have := hmin j hj
          rw [List.getD_eq_getElem?_getD, List.getElem?_eq_getElem hj, Option.getD_some, e] at this
          exact this
        have h2 : xs[i].addr ≠ b.addr := by
          have hn2 : (xs.take i ++ xs[i] :: xs.drop (i + 1)).Pairwise fun a b => a.addr ≠ b.addr := by rw [← hsplit]; exact hn
          rw [List.pairwise_append, List.pairwise_cons] at hn2
          rcases List.mem_append.1 hb2 with h | h
          · exact fun e => hn2.2.2 b h xs[i] List.mem_cons_self e.symm
          · exact hn2.2.1.1 b h
        omega
      have hsub : (xs.take i ++ xs.drop (i + 1)).Sublist xs := by
        conv => rhs; rw [hsplit]
        exact (List.Sublist.refl _).append (List.sublist_cons_self _ _)
      obtain ⟨r1, r2⟩ := selL_spec k (xs.take i ++ xs.drop (i + 1)) (out ++ [xs[i]]) (by simp; omega) (hn.sublist hsub) (by
        unfold SrtA
        rw [List.pairwise_append]
        exact ⟨hs, List.pairwise_singleton _ _, fun a ha b hb2 => by simp at hb2; subst hb2; exact hlt a ha _ (List.getElem_mem hb)⟩) (by
        intro a ha b hb2
        rcases List.mem_append.1 ha with h1 | h1
        · exact hlt a h1 b ((hmem b).2 (.inr hb2))
        · simp at h1; subst h1; exact hne b hb2)
      refine ⟨r1, fun b => ?_⟩
      rw [r2, List.mem_append, hmem b]
      simp only [List.mem_cons, List.not_mem_nil, or_false]
      constructor
      · rintro ((h | h) | h)
        · exact .inl h
        · exact .inr (.inl h)
        · exact .inr (.inr h)
      · rintro (h | h | h)
        · exact .inl (.inl h)
        · exact .inl (.inr h)
        · exact .inr h
    · rw [if_neg h]
      have : xs = [] := List.eq_nil_of_length_eq_zero (by omega)
      subst this
      exact ⟨hs, fun b => by simp⟩
/-- Both ways answer the same. -/
theorem sel_last (ls : List LeaseR) : selL (leftL ls).length (leftL ls) [] = lastL ls := by
  obtain ⟨h1, h2⟩ := selL_spec (leftL ls).length (leftL ls) [] (Nat.le_refl _) (leftL_nd ls) List.Pairwise.nil (by simp)
  obtain ⟨h3, h4⟩ := lastL_spec ls
  refine srtA_ext h1 h3 fun b => ?_
  rw [h2, h4, leftL_mem]
  simp
end Go.Proofs.YtkbidfohcanijaaGreat
