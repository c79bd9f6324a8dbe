/- Configurations: what the document's layer 13 answers, second part; and that it is what the program answers. -/
import Derived.Test.YtimlalndjfmnbaaDoorConfR
namespace Go.Proofs.YtimlalndjfmnbaaDoor
open BoEng Go
set_option maxRecDepth 100000
set_option linter.unusedSimpArgs false
set_option linter.unusedVariables false

/-! ### pairs -/
theorem pw_step {α : Type} {R : α → α → Prop} {l : List α} {i : Nat} (h : i < l.length) (hp : (l.take i).Pairwise R) (ha : ∀ j (hj : j < i), R (l[j]'(by omega)) l[i]) : (l.take (i + 1)).Pairwise R := by
  rw [List.take_succ_eq_append_getElem h, List.pairwise_append]
  refine ⟨hp, by simp, fun a hm b hb => ?_⟩
  simp at hb
  subst hb
  obtain ⟨j, hj, rfl⟩ := List.mem_take_iff_getElem.1 hm
  exact ha j (by omega)
theorem pw_bad {α : Type} {R : α → α → Prop} {l : List α} {i j : Nat} (h : i < l.length) (hj : j < i) (hn : ¬ R (l[j]'(by omega)) l[i]) : ¬ l.Pairwise R := by
  rw [List.pairwise_iff_getElem]
  exact fun hp => hn (hp j i (by omega) h hj)
theorem pw_end {α : Type} {R : α → α → Prop} {l : List α} {i : Nat} (h : ¬ i < l.length) (hp : (l.take i).Pairwise R) : l.Pairwise R := by
  rwa [List.take_of_length_le (by omega)] at hp
theorem pw_sym {α : Type} {R : α → α → Prop} (hs : ∀ x y, R x y → R y x) (l : List α) : l.Pairwise R ↔ ∀ i k (hi : i < l.length) (hk : k < l.length), i ≠ k → R l[i] l[k] := by
  rw [List.pairwise_iff_getElem]
  constructor
  · intro h i k hi hk hne
    rcases Nat.lt_or_gt_of_ne hne with h1 | h1
    · exact h i k hi hk h1
    · exact hs _ _ (h k i hk hi h1)
  · exact fun h i k hi hk hlt => h i k hi hk (by omega)

/-! ### what is there twice -/
def apartR (p q : Rng) : Bool := !(decide (q.first ≤ p.last) && decide (p.first ≤ q.last))
def poolsOk (s : Sub) : Bool := decide (s.pools.Pairwise fun p q => apartR p q = true)
def lessR (x y : Spot) : Prop := apartS y x = true
instance : DecidableRel lessR := fun x y => inferInstanceAs (Decidable (apartS y x = true))
def resOf (x : Spot) : List (Res × Nat) := x.s.res.map fun r => (r, x.net)
def apartQ (a b : Res × Nat) : Prop := (!(decide (b.1.addr = a.1.addr) || decide (b.2 = a.2) && decide (b.1.key = a.1.key))) = true
instance : DecidableRel apartQ := fun a b => inferInstanceAs (Decidable ((!(decide (b.1.addr = a.1.addr) || decide (b.2 = a.2) && decide (b.1.key = a.1.key))) = true))
def resAll (c : Cfg) : List (Res × Nat) := (spotsS c).flatMap resOf
def poolsX (x : Spot) : Bool := poolsOk x.s
def soleS (c : Cfg) : Bool := (spotsS c).all poolsX && decide ((spotsS c).Pairwise lessR) && decide ((resAll c).Pairwise apartQ)

/-! ### the two ways of telling agree -/
theorem zall_iff {α : Type} {p : α × Nat → Bool} {l : List α} : l.zipIdx.all p = true ↔ ∀ i (h : i < l.length), p (l[i], i) = true := by
  rw [List.all_eq_true]
  constructor
  · intro h i hi
    have := h (l.zipIdx[i]'(by simpa using hi)) (List.getElem_mem _)
    rwa [zip_at] at this
  · intro h x hx
    obtain ⟨i, hi, rfl⟩ := List.mem_iff_getElem.1 hx
    rw [zip_at]
    exact h i (by simpa using hi)
theorem meet_comm (b k c l : Int) : meetA b k c l = meetA c l b k := by
  unfold meetA
  cases fairA b k <;> cases fairA c l <;> simp [Bool.and_comm]
theorem apartS_comm {x y : Spot} (h : apartS x y = true) : apartS y x = true := by
  have hm := meet_comm x.s.base x.s.bits y.s.base y.s.bits
  simp only [apartS, Bool.not_eq_true', Bool.or_eq_false_iff, Bool.and_eq_false_iff, Bool.not_eq_false', decide_eq_true_eq, decide_eq_false_iff_not] at h ⊢
  refine ⟨by rw [← hm]; exact h.1, ?_⟩
  rcases h.2 with (h1 | h1) | h1
  · exact .inl (.inl h1.symm)
  · exact .inl (.inr fun e => h1 e.symm)
  · by_cases e : y.s.iface = x.s.iface
    · exact .inr (by rw [e]; exact h1)
    · exact .inl (.inr e)
theorem apartQ_comm {a b : Res × Nat} (h : apartQ a b) : apartQ b a := by
  simp only [apartQ, Bool.not_eq_true', Bool.or_eq_false_iff, Bool.and_eq_false_iff, decide_eq_false_iff_not] at h ⊢
  refine ⟨fun e => h.1 e.symm, ?_⟩
  rcases h.2 with h1 | h1
  · exact .inl fun e => h1 e.symm
  · exact .inr fun e => h1 e.symm
theorem once_iff (x y : Spot) (same : Bool) : onceS x y same = true ↔ (same = true ∨ apartS x y = true) ∧
    (∀ a (ha : a < x.s.pools.length) b (hb : b < y.s.pools.length), poolPair same (x.s.pools[a], a) (y.s.pools[b], b) = true) ∧
    (∀ a (ha : a < x.s.res.length) b (hb : b < y.s.res.length), resPair (decide (x.net = y.net)) same (x.s.res[a], a) (y.s.res[b], b) = true) := by
  simp only [onceS, Bool.and_eq_true, Bool.or_eq_true, poolRow, resRow, zall_iff, and_assoc]
theorem unlike_iff (c : Cfg) : unlikeS c = true ↔ ∀ i (hi : i < (spotsS c).length) k (hk : k < (spotsS c).length), onceS (spotsS c)[i] (spotsS c)[k] (decide (i = k)) = true := by
  simp only [unlikeS, likeRow, likePair, zall_iff]
theorem pools_eq {s : Sub} (hf : fairS s = true) : poolsOk s = true ↔ ∀ a (ha : a < s.pools.length) b (hb : b < s.pools.length), poolPair true (s.pools[a], a) (s.pools[b], b) = true := by
  have hr : ∀ p ∈ s.pools, p.first ≤ p.last := by
    simp only [fairS, Bool.and_eq_true] at hf
    intro p hp
    simpa [rngOk] using List.all_eq_true.1 hf.1.2 p hp
  have hsym : ∀ p q : Rng, apartR p q = true → apartR q p = true := by
    intro p q h
    simp only [apartR, Bool.not_eq_true', Bool.and_eq_false_iff, decide_eq_false_iff_not] at h ⊢
    exact h.symm
  have hkey : ∀ p q : Rng, p ∈ s.pools → q ∈ s.pools → (apartR p q = true ↔ ¬ (inR p q.first = true ∨ inR q p.first = true)) := by
    intro p q hp hq
    have h1 := hr p hp
    have h2 := hr q hq
    simp only [apartR, inR, Bool.not_eq_true', Bool.and_eq_false_iff, decide_eq_false_iff_not, decide_eq_true_eq]
    omega
  rw [poolsOk, decide_eq_true_eq, pw_sym hsym]
  constructor
  · intro h a ha b hb
    by_cases e : a = b
    · simp [poolPair, e]
    · have := (hkey _ _ (List.getElem_mem ha) (List.getElem_mem hb)).1 (h a b ha hb e)
      simp only [not_or] at this
      simp [poolPair, this]
  · intro h a b ha hb hne
    rw [hkey _ _ (List.getElem_mem ha) (List.getElem_mem hb)]
    have := h a ha b hb
    simp [poolPair, hne] at this
    simp [this]
/-- The program's telling of what is there twice is the document's. -/
theorem sole_unlike {c : Cfg} (hf : formS c = true) : soleS c = unlikeS c := by
  rw [Bool.eq_iff_iff, unlike_iff]
  simp only [soleS, Bool.and_eq_true, decide_eq_true_eq, List.all_eq_true]
  have hls : ∀ x y, lessR x y → lessR y x := fun x y h => apartS_comm h
  rw [pw_sym hls, resAll, List.pairwise_flatMap]
  have hcross : ∀ x y : Spot, (∀ r ∈ resOf x, ∀ q ∈ resOf y, apartQ r q) → ∀ r ∈ resOf y, ∀ q ∈ resOf x, apartQ r q := fun x y h r hr q hq => apartQ_comm (h q hq r hr)
  rw [pw_sym hcross]
  have hq : ∀ x : Spot, (resOf x).Pairwise apartQ ↔ ∀ a b (ha : a < x.s.res.length) (hb : b < x.s.res.length), a ≠ b → apartQ (x.s.res[a], x.net) (x.s.res[b], x.net) := by
    intro x
    rw [pw_sym (fun _ _ => apartQ_comm)]
    simp [resOf]
  constructor
  · rintro ⟨⟨h1, h2⟩, h3, h4⟩ i hi k hk
    rw [once_iff]
    by_cases e : i = k
    · subst e
      refine ⟨.inl (by simp), fun a ha b hb => ?_, fun a ha b hb => ?_⟩
      · have := (pools_eq (form_fair hf hi)).1 (h1 _ (List.getElem_mem hi)) a ha b hb
        simpa using this
      · by_cases eab : a = b
        · simp [resPair, eab]
        · have := (hq _).1 (h3 _ (List.getElem_mem hi)) b a hb ha (fun x => eab x.symm)
          simp only [apartQ] at this
          simp only [resPair, decide_true, Bool.not_true, Bool.false_or, eab, decide_false, Bool.not_false, Bool.true_and]
          simpa using this
    · refine ⟨.inr (h2 k i hk hi (fun x => e x.symm)), fun a ha b hb => by simp [poolPair, e], fun a ha b hb => ?_⟩
      have := h4 k i hk hi (fun x => e x.symm) ((spotsS c)[k].s.res[b], (spotsS c)[k].net) (by simp [resOf]) ((spotsS c)[i].s.res[a], (spotsS c)[i].net) (by simp [resOf])
      simp only [apartQ] at this
      simp only [resPair, e, decide_false, Bool.not_false, Bool.true_or, Bool.true_and]
      exact this
  · intro h
    have ho := fun i hi k hk => (once_iff _ _ _).1 (h i hi k hk)
    refine ⟨⟨fun x hx => ?_, fun i k hi hk hne => ?_⟩, fun x hx => ?_, fun i k hi hk hne r hr q hqm => ?_⟩
    · obtain ⟨i, hi, rfl⟩ := List.mem_iff_getElem.1 hx
      have := (ho i hi i hi).2.1
      simp only [decide_true] at this
      exact (pools_eq (form_fair hf hi)).2 this
    · rcases (ho k hk i hi).1 with h1 | h1
      · simp at h1
        exact absurd h1.symm hne
      · exact h1
    · obtain ⟨i, hi, rfl⟩ := List.mem_iff_getElem.1 hx
      rw [hq]
      intro a b ha hb hne
      have := (ho i hi i hi).2.2 b hb a ha
      simp only [resPair, decide_true, Bool.not_true, Bool.false_or, show ¬ b = a from fun e => hne e.symm, decide_false, Bool.not_false, Bool.true_and] at this
      simp only [apartQ, decide_true, Bool.true_and]
      exact this
    · simp only [resOf, List.mem_map] at hr hqm
      obtain ⟨r, hr, rfl⟩ := hr
      obtain ⟨q, hqm, rfl⟩ := hqm
      obtain ⟨a, ha, rfl⟩ := List.mem_iff_getElem.1 hr
      obtain ⟨b, hb, rfl⟩ := List.mem_iff_getElem.1 hqm
      have := (ho k hk i hi).2.2 b hb a ha
      simp only [resPair, show ¬ k = i from fun e => hne e.symm, decide_false, Bool.not_false, Bool.true_or, Bool.true_and] at this
      exact this

end Go.Proofs.YtimlalndjfmnbaaDoor
