/- Journals, plain laws: what is read of bytes; which disks are found again. -/
import Derived.Test.YtkbidfohcanijaaGreatJrn2
namespace Go.Proofs.YtkbidfohcanijaaGreat
open BoEng Go
set_option maxRecDepth 100000
set_option linter.unusedSimpArgs false
set_option linter.unusedVariables false

/-! ### frames -/
theorem frN_app (a r : List UInt8) (h : 2 ≤ a.length) : frN (a ++ r) = frN a := by
  unfold frN
  rw [List.take_append_of_le_length h]
theorem openS_app {a : List UInt8} (h6 : 6 ≤ a.length) (h : 6 + frN a ≤ a.length) (r : List UInt8) : openS (a ++ r) = openS a := by
  have e1 := frN_app a r (by omega)
  have e2 : frX (a ++ r) = frX a := by
    unfold frX
    rw [e1, List.drop_append_of_le_length h6, List.take_append_of_le_length (by simp; omega)]
  have e3 : frS (a ++ r) = frS a := by
    unfold frS
    rw [List.drop_append_of_le_length (by omega), List.take_append_of_le_length (by simp; omega)]
  unfold openS
  rw [e1, e2, e3, if_neg (by simp; omega), if_neg (show ¬ a.length < 6 by omega), if_neg (show ¬ (a ++ r).length < 6 + frN a by simp; omega), if_neg (show ¬ a.length < 6 + frN a by omega)]
theorem openS_0 {b : List UInt8} (h : (openS b).2.2 = 0) : 6 ≤ b.length ∧ 6 + frN b ≤ b.length ∧ (openS b).2.1 = 6 + frN b ∧ frN b ≤ 2000 ∧ openS b = (frX b, 6 + (frN b : Int), 0) := by
  unfold openS at h ⊢
  by_cases h1 : b.length < 6
  · rw [if_pos h1] at h; simp at h
  rw [if_neg h1] at h ⊢
  by_cases h2 : frN b > 2000
  · rw [if_pos h2] at h; simp at h
  rw [if_neg h2] at h ⊢
  by_cases h3 : b.length < 6 + frN b
  · rw [if_pos h3] at h; simp at h
  rw [if_neg h3] at h ⊢
  by_cases h4 : sumN (frX b) = frS b
  · rw [if_pos h4]
    exact ⟨by omega, by omega, rfl, by omega, rfl⟩
  · rw [if_neg h4] at h; simp at h
theorem openS_0app {a : List UInt8} (h : (openS a).2.2 = 0) (r : List UInt8) : openS (a ++ r) = openS a := by
  obtain ⟨h1, h2, _⟩ := openS_0 h
  exact openS_app h1 h2 r
theorem openS_0take {c : List UInt8} (h : (openS c).2.2 = 0) {m : Nat} (hm : (openS c).2.1 ≤ m) : openS (c.take m) = openS c := by
  obtain ⟨h1, h2, h3, _⟩ := openS_0 h
  have e : frN (c.take m) = frN c := by
    unfold frN
    rw [List.take_take, Nat.min_eq_left (by omega)]
  have := openS_app (a := c.take m) (by simp; omega) (by rw [e]; simp; omega) (c.drop m)
  rw [List.take_append_drop] at this
  exact this.symm
theorem frN_frame {x : List UInt8} (hx : x.length ≤ 2000) (r : List UInt8) : frN (frameB x ++ r) = x.length := by
  have h2 := putB_len x.length 2
  have : (frameB x ++ r).take 2 = putB x.length 2 := by
    unfold frameB
    rw [List.append_assoc, List.append_assoc, List.take_append_of_le_length (by omega), List.take_of_length_le (by omega)]
  unfold frN
  rw [this, valB_putB 2 _ (by omega)]
  simp
theorem frame_len (x : List UInt8) : (frameB x).length = 6 + x.length := by simp [frameB, putB_len]; omega
theorem openS_frame {x : List UInt8} (hx : x.length ≤ 2000) (r : List UInt8) : openS (frameB x ++ r) = (x, 6 + (x.length : Int), 0) := by
  have h2 := putB_len x.length 2
  have h4 := putB_len (sumN x) 4
  have e1 := frN_frame hx r
  have e2 : frX (frameB x ++ r) = x := by
    unfold frX
    rw [e1]
    unfold frameB
    rw [List.append_assoc (_ ++ _), List.drop_append_of_le_length (by simp; omega), List.drop_eq_nil_of_le (by simp; omega), List.nil_append, List.take_append_of_le_length (by omega), List.take_of_length_le (by omega)]
  have e3 : frS (frameB x ++ r) = sumN x := by
    unfold frS frameB
    rw [List.append_assoc, List.append_assoc, List.drop_append_of_le_length (by omega), List.drop_eq_nil_of_le (by omega), List.nil_append, List.take_append_of_le_length (by omega), List.take_of_length_le (by omega), valB_putB 4 _ (by have := sumN_lt x; omega)]
    simp
  have hl := frame_len x
  unfold openS
  rw [e1, e2, e3, if_neg (by simp; omega), if_neg (by omega), if_neg (by simp; omega), if_pos rfl]
theorem openS_part {x : List UInt8} (hx : x.length ≤ 2000) {m : Nat} (hm : m < (frameB x).length) : (openS ((frameB x).take m)).2.2 = 4 := by
  have hl := frame_len x
  unfold openS
  by_cases h6 : m < 6
  · rw [if_pos (by simp; omega)]
  rw [if_neg (by simp; omega)]
  have e1 : frN ((frameB x).take m) = x.length := by
    have := frN_frame hx []
    rw [List.append_nil] at this
    unfold frN at this ⊢
    rw [List.take_take, Nat.min_eq_left (by omega), this]
  rw [e1, if_neg (by omega), if_pos (by simp; omega)]

/-! ### reading, whatever the fuel -/
theorem jread_more : ∀ (k : Nat) (b : List UInt8) (a : Nat) (out : List LeaseR), b.length + 1 ≤ a + k → a ≤ b.length → jread (k + 1) b a out = jread k b a out
  | 0, b, a, out, h, h2 => by omega
  | k + 1, b, a, out, h, h2 => by
    rw [jread]
    conv => rhs; rw [jread]
    split
    · rename_i hlt
      split
      · rfl
      rename_i h4
      split
      · rfl
      rename_i h0
      split
      · rfl
      have h0 : (openS (b.drop a)).2.2 = 0 := by simpa using h0
      obtain ⟨p1, p2, _⟩ := openS_pos h0
      simp only [List.length_drop] at p2
      exact jread_more k b _ _ (by omega) (by omega)
    · rfl
theorem jread_any {b : List UInt8} {a : Nat} {out : List LeaseR} (h2 : a ≤ b.length) : ∀ (j k : Nat), b.length + 1 ≤ a + k → jread (k + j) b a out = jread k b a out
  | 0, k, h => rfl
  | j + 1, k, h => by
    rw [← Nat.add_assoc, jread_more (k + j) b a out (by omega) h2, jread_any h2 j k h]
/-- What is read from a place on. -/
def jrd (b : List UInt8) (a : Nat) (out : List LeaseR) : List LeaseR × Int × Int := jread (b.length + 1) b a out
theorem readJ_rd (b : List UInt8) : readJ b = jrd b 0 [] := rfl
theorem jrd_eq {b : List UInt8} {a : Nat} {out : List LeaseR} (h : a ≤ b.length) : jrd b a out =
    if a < b.length then
      if (openS (b.drop a)).2.2 = 4 then (out, (a : Int), 4)
      else if (openS (b.drop a)).2.2 ≠ 0 then ([], 0, 2)
      else if (readL (openS (b.drop a)).1).2 ≠ 0 then ([], 0, 2)
      else jrd b (a + (openS (b.drop a)).2.1.toNat) (out ++ [(readL (openS (b.drop a)).1).1])
    else (out, (a : Int), 0) := by
  unfold jrd
  conv => lhs; rw [jread]
  split
  · rename_i hlt
    split
    · rfl
    rename_i h4
    split
    · rfl
    rename_i h0
    split
    · rfl
    have h0 : (openS (b.drop a)).2.2 = 0 := by simpa using h0
    obtain ⟨p1, p2, _⟩ := openS_pos h0
    simp only [List.length_drop] at p2
    exact (jread_any (by omega) 1 b.length (by omega)).symm
  · rfl
theorem jrd_end (b : List UInt8) (out : List LeaseR) : jrd b b.length out = (out, (b.length : Int), 0) := by
  rw [jrd_eq (Nat.le_refl _), if_neg (by omega)]
/-- A step that goes on. -/
theorem jrd_step {b : List UInt8} {a : Nat} {out : List LeaseR} (hlt : a < b.length) (h0 : (openS (b.drop a)).2.2 = 0) (h1 : (readL (openS (b.drop a)).1).2 = 0) :
    jrd b a out = jrd b (a + (openS (b.drop a)).2.1.toNat) (out ++ [(readL (openS (b.drop a)).1).1]) := by
  rw [jrd_eq (by omega), if_pos hlt, if_neg (by rw [h0]; decide), if_neg (fun h => h h0), if_neg (fun h => h h1)]
/-- How a read may go: it is at its end, it stops, it goes on, it fails. -/
theorem jrd_cases {b : List UInt8} {a : Nat} (h : a ≤ b.length) (out : List LeaseR) :
    (a = b.length ∧ jrd b a out = (out, (a : Int), 0)) ∨ (a < b.length ∧ (openS (b.drop a)).2.2 = 4 ∧ jrd b a out = (out, (a : Int), 4)) ∨ (jrd b a out = ([], 0, 2)) ∨
    (a < b.length ∧ (openS (b.drop a)).2.2 = 0 ∧ (readL (openS (b.drop a)).1).2 = 0 ∧ a + 6 ≤ a + (openS (b.drop a)).2.1.toNat ∧ a + (openS (b.drop a)).2.1.toNat ≤ b.length ∧
      jrd b a out = jrd b (a + (openS (b.drop a)).2.1.toNat) (out ++ [(readL (openS (b.drop a)).1).1])) := by
  by_cases hlt : a < b.length
  · by_cases h4 : (openS (b.drop a)).2.2 = 4
    · exact .inr (.inl ⟨hlt, h4, by rw [jrd_eq h, if_pos hlt, if_pos h4]⟩)
    by_cases h0 : (openS (b.drop a)).2.2 = 0
    · by_cases h1 : (readL (openS (b.drop a)).1).2 = 0
      · obtain ⟨p1, p2, _⟩ := openS_pos h0
        simp only [List.length_drop] at p2
        exact .inr (.inr (.inr ⟨hlt, h0, h1, by omega, by omega, jrd_step hlt h0 h1⟩))
      · exact .inr (.inr (.inl (by rw [jrd_eq h, if_pos hlt, if_neg h4, if_neg (fun h => h h0), if_pos h1])))
    · exact .inr (.inr (.inl (by rw [jrd_eq h, if_pos hlt, if_neg h4, if_pos h0])))
  · have e : a = b.length := by omega
    subst e
    exact .inl ⟨rfl, jrd_end b out⟩
theorem jrd_err (b : List UInt8) : ∀ (m a : Nat) (out : List LeaseR), b.length - a ≤ m → a ≤ b.length → (jrd b a out).2.2 = 0 ∨ (jrd b a out).2.2 = 4 ∨ (jrd b a out).2.2 = 2 := by
  intro m
  induction m with
  | zero =>
    intro a out hm ha
    rcases jrd_cases ha out with ⟨_, e⟩ | ⟨h, _⟩ | e | ⟨h, _⟩
    · rw [e]; simp
    · omega
    · rw [e]; simp
    · omega
  | succ m ih =>
    intro a out hm ha
    rcases jrd_cases ha out with ⟨_, e⟩ | ⟨h, _, e⟩ | e | ⟨h, h0, h1, p1, p2, e⟩
    · rw [e]; simp
    · rw [e]; simp
    · rw [e]; simp
    · rw [e]; exact ih _ _ (by omega) p2
/-- Bytes behind bytes that are read whole. -/
theorem jrd_app (d r : List UInt8) : ∀ (m a : Nat) (out xs : List LeaseR) (n : Int), d.length - a ≤ m → a ≤ d.length → jrd d a out = (xs, n, 0) → n = d.length ∧ jrd (d ++ r) a out = jrd (d ++ r) d.length xs := by
  intro m
  induction m with
  | zero =>
    intro a out xs n hm ha h
    have e : a = d.length := by omega
    subst e
    rw [jrd_end] at h
    cases h
    exact ⟨rfl, rfl⟩
  | succ m ih =>
    intro a out xs n hm ha h
    rcases jrd_cases ha out with ⟨e, e2⟩ | ⟨_, _, e⟩ | e | ⟨hlt, h0, h1, p1, p2, e⟩
    · subst e
      rw [jrd_end] at h
      cases h
      exact ⟨rfl, rfl⟩
    · rw [e] at h; simp at h
    · rw [e] at h; simp at h
    · rw [e] at h
      have e3 : openS ((d ++ r).drop a) = openS (d.drop a) := by rw [List.drop_append_of_le_length ha, openS_0app h0]
      obtain ⟨q1, q2⟩ := ih _ _ _ _ (by omega) p2 h
      refine ⟨q1, ?_⟩
      rw [jrd_step (by simp; omega) (by rw [e3]; exact h0) (by rw [e3]; exact h1), e3]
      exact q2
/-- What is read till bytes are wanting is read of the whole part alone. -/
theorem jrd_cut (b : List UInt8) : ∀ (m a : Nat) (out xs : List LeaseR) (n : Int), b.length - a ≤ m → a ≤ b.length → jrd b a out = (xs, n, 4) → ∃ q : Nat, n = q ∧ a ≤ q ∧ q ≤ b.length ∧ jrd (b.take q) a out = (xs, n, 0) := by
  intro m
  induction m with
  | zero =>
    intro a out xs n hm ha h
    have e : a = b.length := by omega
    subst e
    rw [jrd_end] at h
    cases h
  | succ m ih =>
    intro a out xs n hm ha h
    rcases jrd_cases ha out with ⟨e, e2⟩ | ⟨hlt, _, e⟩ | e | ⟨hlt, h0, h1, p1, p2, e⟩
    · rw [e2] at h; simp at h
    · rw [e] at h
      cases h
      refine ⟨a, rfl, Nat.le_refl _, ha, ?_⟩
      have := jrd_end (b.take a) out
      rw [show (b.take a).length = a by simp; omega] at this
      exact this
    · rw [e] at h; simp at h
    · rw [e] at h
      obtain ⟨q, q1, q2, q3, q4⟩ := ih _ _ _ _ (by omega) p2 h
      refine ⟨q, q1, by omega, q3, ?_⟩
      obtain ⟨z1, z2, z3, _⟩ := openS_0 h0
      have e3 : openS ((b.take q).drop a) = openS (b.drop a) := by
        rw [List.drop_take, openS_0take h0 (by omega)]
      rw [jrd_step (by simp; omega) (by rw [e3]; exact h0) (by rw [e3]; exact h1), e3]
      exact q4
/-- Leases that were read are right, and their bytes are few. -/
theorem readL_0 {x : List UInt8} (h : (readL x).2 = 0) : rightL (readL x).1 = true ∧ x.length ≤ 268 := by
  unfold readL at h ⊢
  by_cases h1 : x.length < 12
  · rw [if_pos h1] at h; simp at h
  rw [if_neg h1] at h ⊢
  cases hr : rightL (rawL x) with
  | false => rw [hr, if_neg (by simp)] at h; simp at h
  | true =>
    rw [if_pos rfl]
    refine ⟨hr, ?_⟩
    have := key_len (right_rng hr).2.2.2
    simp only [rawL, List.length_drop] at this
    omega
theorem jrd_right (b : List UInt8) : ∀ (m a : Nat) (out xs : List LeaseR) (n e : Int), b.length - a ≤ m → a ≤ b.length → jrd b a out = (xs, n, e) → e = 0 ∨ e = 4 → ∃ ys, xs = out ++ ys ∧ (∀ l ∈ ys, rightL l = true) ∧ n ≤ a + 274 * ys.length ∧ a + 6 * ys.length ≤ n := by
  intro m
  induction m with
  | zero =>
    intro a out xs n e hm ha h he
    have e : a = b.length := by omega
    subst e
    rw [jrd_end] at h
    cases h
    exact ⟨[], by simp, by simp, by simp, by simp⟩
  | succ m ih =>
    intro a out xs n e hm ha h he
    rcases jrd_cases ha out with ⟨_, e2⟩ | ⟨hlt, _, e2⟩ | e2 | ⟨hlt, h0, h1, p1, p2, e2⟩
    · rw [e2] at h; cases h; exact ⟨[], by simp, by simp, by simp, by simp⟩
    · rw [e2] at h; cases h; exact ⟨[], by simp, by simp, by simp, by simp⟩
    · rw [e2] at h; cases h; rcases he with he | he <;> simp at he
    · rw [e2] at h
      obtain ⟨ys, r1, r2, r3, r4⟩ := ih _ _ _ _ _ (by omega) p2 h he
      obtain ⟨q1, q2⟩ := readL_0 h1
      obtain ⟨z1, z2, z3, z4, z5⟩ := openS_0 h0
      have z6 : (openS (b.drop a)).1.length = frN (b.drop a) := by
        rw [z5]
        simp only [frX, List.length_take, List.length_drop] at z2 ⊢
        omega
      refine ⟨(readL (openS (b.drop a)).1).1 :: ys, by rw [r1]; simp, ?_, ?_, ?_⟩
      · intro l hl
        rcases List.mem_cons.1 hl with rfl | hl
        · exact q1
        · exact r2 l hl
      · simp only [List.length_cons]; omega
      · simp only [List.length_cons]; omega
theorem read_right {b : List UInt8} {xs : List LeaseR} {n e : Int} (h : readJ b = (xs, n, e)) (he : e = 0 ∨ e = 4) : (∀ l ∈ xs, rightL l = true) ∧ n ≤ 274 * xs.length ∧ 6 * xs.length ≤ n := by
  obtain ⟨ys, e1, e2, e3, e4⟩ := jrd_right b b.length 0 [] xs n e (by omega) (by omega) h he
  rw [List.nil_append] at e1
  subst e1
  exact ⟨e2, by omega, by omega⟩
theorem read_whole {b : List UInt8} {xs : List LeaseR} {n : Int} (h : readJ b = (xs, n, 0)) : n = b.length := (jrd_app b [] b.length 0 [] xs n (by omega) (by omega) h).1
theorem read_cut {b : List UInt8} {xs : List LeaseR} {n : Int} (h : readJ b = (xs, n, 4)) : ∃ q : Nat, n = q ∧ q ≤ b.length ∧ readJ (b.take q) = (xs, n, 0) := by
  obtain ⟨q, h1, _, h3, h4⟩ := jrd_cut b b.length 0 [] xs n (by omega) (by omega) h
  exact ⟨q, h1, h3, h4⟩
theorem read_err (b : List UInt8) : (readJ b).2.2 = 0 ∨ (readJ b).2.2 = 4 ∨ (readJ b).2.2 = 2 := jrd_err b b.length 0 [] (by omega) (by omega)

/-! ### a lease's bytes -/
theorem rawL_rec {l : LeaseR} (h : rightL l = true) : rawL (recB l) = l := by
  obtain ⟨⟨a0, a1⟩, ⟨s0, s1⟩, ⟨e0, e1⟩, _⟩ := right_rng h
  obtain ⟨ad, st, ex, ky⟩ := l
  dsimp only at a0 a1 s0 s1 e0 e1
  obtain ⟨a, rfl⟩ := Int.eq_ofNat_of_zero_le a0
  obtain ⟨s, rfl⟩ := Int.eq_ofNat_of_zero_le (show 0 ≤ st by omega)
  obtain ⟨e, rfl⟩ := Int.eq_ofNat_of_zero_le e0
  have l4 := putB_len a 4
  have l7 := putB_len e 7
  have hs : putB s 1 = [UInt8.ofNat s] := by
    simp only [putB, List.nil_append]
    congr 2
    omega
  have hr : recB ⟨(a : Int), (s : Int), (e : Int), ky⟩ = putB a 4 ++ ([UInt8.ofNat s] ++ (putB e 7 ++ ky)) := by
    simp only [recB, Int.toNat_natCast, hs, List.append_assoc]
  rw [hr]
  unfold rawL
  have p1 : (putB a 4 ++ ([UInt8.ofNat s] ++ (putB e 7 ++ ky))).take 4 = putB a 4 := by
    rw [List.take_append_of_le_length (by omega), List.take_of_length_le (by omega)]
  have p2 : (putB a 4 ++ ([UInt8.ofNat s] ++ (putB e 7 ++ ky))).getD 4 0 = UInt8.ofNat s := by
    rw [List.getD_eq_getElem?_getD, List.getElem?_append_right (by omega), l4]
    rfl
  have p3 : (putB a 4 ++ ([UInt8.ofNat s] ++ (putB e 7 ++ ky))).drop 5 = putB e 7 ++ ky := by
    rw [List.drop_append, l4, List.drop_eq_nil_of_le (by omega), List.nil_append]
    rfl
  have p4 : (putB a 4 ++ ([UInt8.ofNat s] ++ (putB e 7 ++ ky))).drop 12 = ky := by
    rw [show 12 = 5 + 7 by rfl, ← List.drop_drop, p3, List.drop_append, l7, List.drop_eq_nil_of_le (by omega)]
    rfl
  rw [p1, p2, p3, p4, List.take_append_of_le_length (by omega), List.take_of_length_le (by omega), valB_putB 4 a (by omega), valB_putB 7 e (by omega)]
  congr 1
  rw [UInt8.toNat_ofNat']
  omega
theorem readL_rec {l : LeaseR} (h : rightL l = true) : readL (recB l) = (l, 0) := by
  have := rec_len h
  unfold readL
  rw [if_neg (by omega), rawL_rec h, if_pos h]
/-- One lease more, whole or a beginning. -/
theorem read_more {d : List UInt8} {xs : List LeaseR} {n : Int} (h : readJ d = (xs, n, 0)) {l : LeaseR} (hl : rightL l = true) (r : List UInt8) (m : Nat) :
    (m < (frameB (recB l)).length → (readJ (d ++ (frameB (recB l)).take m)).1 = xs ∧ ((readJ (d ++ (frameB (recB l)).take m)).2.2 = 0 ∨ (readJ (d ++ (frameB (recB l)).take m)).2.2 = 4)) ∧
    readJ (d ++ frameB (recB l)) = (xs ++ [l], ((d ++ frameB (recB l)).length : Int), 0) := by
  have hr := rec_len hl
  constructor
  · intro hm
    have q := (jrd_app d ((frameB (recB l)).take m) d.length 0 [] xs n (by omega) (by omega) h).2
    rw [readJ_rd, q]
    by_cases h0 : m = 0
    · subst h0
      rw [List.take_zero, List.append_nil, jrd_end]
      exact ⟨rfl, .inl rfl⟩
    · have e : ((d ++ (frameB (recB l)).take m).drop d.length) = (frameB (recB l)).take m := by simp
      rw [jrd_eq (by simp), if_pos (by simp; omega), e, if_pos (openS_part (by omega) hm)]
      exact ⟨rfl, .inr rfl⟩
  · have q := (jrd_app d (frameB (recB l)) d.length 0 [] xs n (by omega) (by omega) h).2
    rw [readJ_rd, q]
    have e : ((d ++ frameB (recB l)).drop d.length) = frameB (recB l) := by simp
    have e2 := openS_frame (x := recB l) (by omega) []
    rw [List.append_nil] at e2
    have hl2 := frame_len (recB l)
    rw [jrd_step (by simp; omega) (by rw [e, e2]) (by rw [e, e2, readL_rec hl]), e, e2, readL_rec hl]
    have e3 : d.length + ((6 : Int) + ((recB l).length : Int)).toNat = (d ++ frameB (recB l)).length := by simp; omega
    rw [e3, jrd_end]
theorem read_nil : readJ [] = ([], 0, 0) := rfl
end Go.Proofs.YtkbidfohcanijaaGreat
