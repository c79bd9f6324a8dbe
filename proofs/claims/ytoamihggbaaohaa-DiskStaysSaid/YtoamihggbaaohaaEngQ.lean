/- Regions, in whatever order. -/
import Derived.Test.YtoamihggbaaohaaEngP
namespace BoEng
open Go Go.RowKit

section
variable {P : Program} {N : Nat} {tr : List Nat} {ops : Array Oper}

theorem looks_guard {x : Oper} {j : Nat} {want : Bool} {d : Nat} (hg : x.guard = some (j, want)) (hd : (ops[j]?).bind (·.dst) = some d) : d ∈ x.looksAt ops := by
  unfold Oper.looksAt
  rw [hg]
  simp only [hd]
  exact List.mem_append.2 (.inr (by simp))

theorem src_looks {x : Oper} {s : Nat} {k : Option Nat} (h : (s, k) ∈ srcs tr x) : s ∈ x.looksAt ops := by
  have key : .tmp s ∈ x.op.operands.toList → s ∈ x.looksAt ops := by
    intro hm
    unfold Oper.looksAt
    exact List.mem_append.2 (.inl (List.mem_filterMap.2 ⟨.tmp s, hm, rfl⟩))
  apply key
  unfold srcs at h
  split at h
  · rename_i ho; simp at h; rw [ho, h.1]; simp [Op.operands]
  · rename_i ho
    split at h
    · simp at h; rw [ho, h.1]; simp [Op.operands]
    · simp at h
  · rename_i ho; simp at h; rw [ho, h.1]; simp [Op.operands]
  · rename_i ho; simp at h; rw [ho, h.1]; simp [Op.operands]
  · rename_i args ts ho
    split at h
    · rename_i s' r ha
      simp at h
      rw [ho, h.1]
      simp only [Op.operands, Call.operands]
      have : Operand.tmp s' ∈ args.toList := by rw [ha]; simp
      simpa using this
    · simp at h
  · rename_i ho
    split at h
    · simp at h
      rw [ho, h.1]
      simp [Op.operands]
    · simp at h
  · rename_i t ps ho
    split at h
    · split at h
      · rename_i i s' r ha
        simp at h
        rw [ho, h.1]
        simp only [Op.operands]
        have : (i, Operand.tmp s') ∈ ps.toList := by rw [ha]; simp
        simp at this ⊢
        exact ⟨i, this⟩
      · simp at h
    · simp at h
  · rename_i t l ps ho
    split at h
    · split at h
      · rename_i i s' r ha
        simp at h
        rw [ho, h.1]
        simp only [Op.operands]
        have : (i, Operand.tmp s') ∈ ps.toList := by rw [ha]; simp
        simp at this ⊢
        exact ⟨i, this⟩
      · simp at h
    · simp at h
  · simp at h

theorem lvlOk_spec {x y : Nat} (h : lvlOk x y = true) : (x = 5 → y = 0) ∧ (y = 5 → x = 0) ∧ (x = 4 → y ≤ 1) ∧ (y = 4 → x ≤ 1) ∧ ¬ (x = 3 ∧ y = 3) ∧ (x = 7 → y = 0 ∨ y = 6) ∧ (y = 7 → x = 0 ∨ x = 6) ∧ (x = 9 → y = 0 ∨ y = 8) ∧ (y = 9 → x = 0 ∨ x = 8) ∧ (20 ≤ x → y = 0 ∨ (20 ≤ y ∧ x ≠ y)) ∧ (20 ≤ y → x = 0 ∨ (20 ≤ x ∧ x ≠ y)) := by
  simp only [lvlOk, Bool.and_eq_true, Bool.or_eq_true, bne_iff_ne, ne_eq, beq_iff_eq, decide_eq_true_eq, Bool.not_eq_true', Bool.and_eq_false_iff, beq_eq_false_iff_ne] at h
  obtain ⟨⟨⟨⟨⟨⟨⟨⟨⟨⟨h10, h11⟩, h1⟩, h2⟩, h3⟩, h4⟩, h5⟩, h6⟩, h7⟩, h8⟩, h9⟩ := h
  refine ⟨fun e => ?_, fun e => ?_, fun e => ?_, fun e => ?_, fun e => ?_, fun e => ?_, fun e => ?_, fun e => ?_, fun e => ?_, fun e => ?_, fun e => ?_⟩ <;> omega

theorem lvl_le (o : Oper) : lvl tr o ≤ 9 ∨ 20 ≤ lvl tr o := by
  have := lvl0_le tr o
  unfold lvl lvlB
  repeat' split
  all_goals omega

theorem findU_some {l : List Upd} {n : Nat} {u : Upd} (h : findU l n = some u) : u ∈ l ∧ u.n = n := by
  induction l with
  | nil => simp at h
  | cons v l ih =>
    simp only [findU] at h
    split at h
    · rename_i e
      cases h
      exact ⟨List.mem_cons_self, e⟩
    · exact ⟨List.mem_cons_of_mem _ (ih h).1, (ih h).2⟩

/-- Behind one operation the state is alike to another one that does not hang on it. -/
theorem alike_after {x y : Oper} {S : PS} {E : Eff} (hi : indep tr ops x y = true) (hs : Shape tr x S E) : Alike tr ops y S (E.apply S) ∧ Alike tr ops y (E.apply S) S := by
  simp only [indep, Bool.and_eq_true] at hi
  obtain ⟨⟨hap, hlv⟩, hsr⟩ := hi
  obtain ⟨ha1, ha2, ha3⟩ := Oper.apart_spec hap
  obtain ⟨l1, l2, l3, l4, l5, l6, l7, l8, l9, l10, l11⟩ := lvlOk_spec hlv
  have hdl : ∀ i, i ∈ y.looksAt ops → E.dst ≠ some i := by
    intro i hi e
    rw [hs.dst] at e
    exact ha1 i e hi
  have ht : ∀ i, i ∈ y.looksAt ops → (E.apply S).t i = S.t i := by
    intro i hi
    simp only [Eff.apply]
    cases hd : E.dst with
    | none => rfl
    | some d =>
      have : i ≠ d := fun e => hdl i hi (by rw [hd, e])
      exact upd_ne _ _ this
  have hle := lvl_le (tr := tr) x
  have h45 : ∀ n u, findU E.bx n = some u → lvl tr x = 4 ∨ lvl tr x = 5 ∨ lvl tr x = 7 ∨ lvl tr x = 9 ∨ 20 ≤ lvl tr x := by
    intro n u hf
    have hne : E.bx ≠ [] := fun e => by rw [e] at hf; simp at hf
    have h4 := hs.bx hne
    have h6 : lvl tr x ≠ 6 := fun e => hne (hs.calm (.inl e))
    have h8 : lvl tr x ≠ 8 := fun e => hne (hs.calm (.inr e))
    omega
  have hg : 1 ≤ lvl tr y → lvl tr y ≠ 6 → lvl tr y ≠ 8 → lvl tr y < 20 → (E.apply S).gen = S.gen := by
    intro hy hy6 hy8 hy20
    funext m
    simp only [Eff.apply]
    cases hf : findU E.bx m with
    | none => rfl
    | some u =>
      rcases h45 m u hf with h | h | h | h | h
      · obtain ⟨hm, e⟩ := findU_some hf
        have := hs.gen h u hm
        rw [e] at this
        exact this
      · have := l1 h
        omega
      · have := l6 h
        omega
      · have := l8 h
        omega
      · have := l10 h
        omega
  have hb : 2 ≤ lvl tr y → lvl tr y ≠ 6 → lvl tr y ≠ 8 → lvl tr y < 20 → (E.apply S).box = S.box := by
    intro hy hy6 hy8 hy20
    funext m
    simp only [Eff.apply]
    cases hf : findU E.bx m with
    | none => rfl
    | some u =>
      rcases h45 m u hf with h | h | h | h | h
      · have := l3 h; omega
      · have := l1 h; omega
      · have := l6 h; omega
      · have := l8 h; omega
      · have := l10 h; omega
  have hcm : lvl tr y = 6 → ∀ n, nws tr S.fo n = true → (E.apply S).gen n = S.gen n ∧ (E.apply S).box n = S.box n := by
    intro hy n hn
    simp only [Eff.apply]
    cases hf : findU E.bx n with
    | none => exact ⟨rfl, rfl⟩
    | some u =>
      rcases h45 n u hf with h | h | h | h | h
      · have := l3 h; omega
      · have := l1 h; omega
      · obtain ⟨hm, e⟩ := findU_some hf
        have := hs.nw h u hm
        rw [e, hn] at this
        cases this
      · have := l8 h; omega
      · have := l10 h; omega
  have hnr : lvl tr y = 8 → ∀ n, nws tr S.fo n = false → (E.apply S).gen n = S.gen n ∧ (E.apply S).box n = S.box n := by
    intro hy n hn
    simp only [Eff.apply]
    cases hf : findU E.bx n with
    | none => exact ⟨rfl, rfl⟩
    | some u =>
      rcases h45 n u hf with h | h | h | h | h
      · have := l3 h; omega
      · have := l1 h; omega
      · have := l6 h; omega
      · obtain ⟨hm, e⟩ := findU_some hf
        have := hs.out h u hm
        rw [e, hn] at this
        cases this
      · have := l10 h; omega
  have hbo : 3 ≤ lvl tr y → lvl tr y ≠ 6 → lvl tr y ≠ 8 → lvl tr y < 20 → ∀ n k, (E.apply S).own (.b n k) = S.own (.b n k) := by
    intro hy hy6 hy8 hy20 n k
    simp only [Eff.apply]
    cases hf : findU E.bx n with
    | none =>
      have : E.clr (.b n k) = false := by
        cases hc : E.clr (.b n k) with
        | false => rfl
        | true =>
          have h3 := hs.bclr n k hc
          have hy5 := lvl_le (tr := tr) y
          have : lvl tr y = 3 ∨ lvl tr y = 4 ∨ lvl tr y = 5 ∨ lvl tr y = 7 ∨ lvl tr y = 9 := by omega
          rcases this with h | h | h | h | h
          · exact absurd ⟨h3, h⟩ l5
          · have := l4 h; omega
          · have := l2 h; omega
          · have := l7 h; omega
          · have := l9 h; omega
      simp [this]
    | some u =>
      rcases h45 n u hf with h | h | h | h | h
      · have := l3 h; omega
      · have := l1 h; omega
      · have := l6 h; omega
      · have := l8 h; omega
      · have := l10 h; omega
  have hfp : ∀ m, lvl tr y = 20 + m → (E.apply S).gen (S.fo + m) = S.gen (S.fo + m) ∧ (E.apply S).box (S.fo + m) = S.box (S.fo + m) ∧ ∀ k, (E.apply S).own (.b (S.fo + m) k) = S.own (.b (S.fo + m) k) := by
    intro m hm
    have hfu : findU E.bx (S.fo + m) = none := by
      cases hf : findU E.bx (S.fo + m) with
      | none => rfl
      | some u =>
        rcases h45 _ u hf with h | h | h | h | h
        · have := l3 h; omega
        · have := l1 h; omega
        · have := l6 h; omega
        · have := l8 h; omega
        · obtain ⟨hm2, e⟩ := findU_some hf
          have h1 := hs.fp (lvl tr x - 20) (by omega) u hm2
          have h2 := l10 h
          omega
    have hcl : ∀ k, E.clr (.b (S.fo + m) k) = false := by
      intro k
      cases hc : E.clr (.b (S.fo + m) k) with
      | false => rfl
      | true =>
        have h3 := hs.bclr _ k hc
        have h4 := l11 (by omega)
        omega
    refine ⟨by simp only [Eff.apply, hfu], by simp only [Eff.apply, hfu], fun k => by simp [Eff.apply, hfu, hcl]⟩
  have ho : ∀ s k, (s, k) ∈ srcs tr y → ∀ j, (k = none ∨ k = some j) → (E.apply S).own (.t s j) = S.own (.t s j) := by
    intro s k hsk j hj
    simp only [Eff.apply]
    rw [if_neg (hdl s (src_looks hsk))]
    have : E.clr (.t s j) = false := by
      cases hc : E.clr (.t s j) with
      | false => rfl
      | true =>
        obtain ⟨k', hk', hkj⟩ := hs.clr s j hc
        have h1 := List.all_eq_true.1 hsr _ hk'
        have h2 := List.all_eq_true.1 h1 _ hsk
        simp at h2
        rcases hj with rfl | rfl <;> rcases hkj with rfl | rfl <;> simp at h2
    simp [this]
  exact ⟨⟨rfl, ht, hg, hb, hcm, hnr, hbo, hfp, ho⟩, ⟨rfl, fun i hi => (ht i hi).symm, fun h h6 h8 h20 => (hg h h6 h8 h20).symm, fun h h6 h8 h20 => (hb h h6 h8 h20).symm, fun h n hn => ⟨(hcm h n hn).1.symm, (hcm h n hn).2.symm⟩, fun h n hn => ⟨(hnr h n hn).1.symm, (hnr h n hn).2.symm⟩, fun h h6 h8 h20 n k => (hbo h h6 h8 h20 n k).symm, fun m h => ⟨(hfp m h).1.symm, (hfp m h).2.1.symm, fun k => ((hfp m h).2.2 k).symm⟩, fun s k h j hj => (ho s k h j hj).symm⟩⟩

theorem stp_congr {o : Oper} {S S2 : PS} (h : Alike tr ops o S S2) {E : Eff} (hs : Stp P N tr ops o S E) : Stp P N tr ops o S2 E := by
  have hg : gd ops o S2 = gd ops o S := by
    unfold gd
    cases ho : o.guard with
    | none => rfl
    | some q =>
      obtain ⟨j, want⟩ := q
      simp only
      cases hd : (ops[j]?).bind (·.dst) with
      | none => rfl
      | some d => simp only [h.t d (looks_guard ho hd)]
  unfold Stp at hs ⊢
  rw [hg]
  split
  · rename_i hgt
    rw [if_pos hgt] at hs
    exact opStep_congr h hs
  · rename_i hgt
    rw [if_neg hgt] at hs
    exact hs

theorem indep_symm {x y : Oper} (h : indep tr ops x y = true) : indep tr ops y x = true := by
  simp only [indep, Bool.and_eq_true] at h ⊢
  obtain ⟨⟨h1, h2⟩, h3⟩ := h
  refine ⟨⟨?_, ?_⟩, ?_⟩
  · obtain ⟨a1, a2, a3⟩ := Oper.apart_spec h1
    unfold Oper.apart
    simp only [Bool.and_eq_true]
    constructor
    · cases hd : y.dst with
      | none => rfl
      | some d =>
        have := a3 d hd
        have hne : x.dst ≠ some d := fun e => a2 d e hd
        simp [this, hne]
    · cases hd : x.dst with
      | none => rfl
      | some d =>
        have := a1 d hd
        simp [this]
  · obtain ⟨l1, l2, l3, l4, l5, l6, l7, l8, l9, l10, l11⟩ := lvlOk_spec h2
    simp only [lvlOk, Bool.and_eq_true, Bool.or_eq_true, bne_iff_ne, ne_eq, beq_iff_eq, decide_eq_true_eq, Bool.not_eq_true', Bool.and_eq_false_iff, beq_eq_false_iff_ne]
    omega
  · unfold srcOk at h3 ⊢
    rw [List.all_eq_true] at h3 ⊢
    intro p hp
    rw [List.all_eq_true]
    intro q hq
    have := List.all_eq_true.1 (h3 q hq) p hp
    simp only [Bool.not_eq_true', Bool.and_eq_false_iff, beq_eq_false_iff_ne, Bool.or_eq_false_iff] at this ⊢
    rcases this with h | h
    · exact .inl fun e => h e.symm
    · exact .inr ⟨⟨h.1.2, h.1.1⟩, fun e => h.2 e.symm⟩

theorem apply_comm {x y : Oper} {S S1 : PS} {Ex Ey : Eff} (hi : indep tr ops x y = true) (hx : Shape tr x S1 Ex) (hy : Shape tr y S1 Ey) : Ey.apply (Ex.apply S) = Ex.apply (Ey.apply S) := by
  simp only [indep, Bool.and_eq_true] at hi
  obtain ⟨⟨hap, hlv⟩, hsr⟩ := hi
  obtain ⟨ha1, ha2, ha3⟩ := Oper.apart_spec hap
  obtain ⟨l1, l2, l3, l4, l5, l6, l7, l8, l9, l10, l11⟩ := lvlOk_spec hlv
  have hdd : ∀ d, Ex.dst = some d → Ey.dst ≠ some d := by
    intro d e1 e2
    rw [hx.dst] at e1
    rw [hy.dst] at e2
    exact ha2 d e1 e2
  have hbb : ∀ n, findU Ex.bx n = none ∨ findU Ey.bx n = none := by
    intro n
    cases h1 : findU Ex.bx n with
    | none => exact .inl rfl
    | some u =>
      cases h2 : findU Ey.bx n with
      | none => exact .inr rfl
      | some u2 =>
        have b1 : Ex.bx ≠ [] := fun e => by rw [e] at h1; simp at h1
        have b2 : Ey.bx ≠ [] := fun e => by rw [e] at h2; simp at h2
        have e1 := hx.bx b1
        have e2 := hy.bx b2
        have e3 := lvl_le (tr := tr) x
        have e6 : ¬ (lvl tr x = 6 ∨ lvl tr x = 8) := fun e => b1 (hx.calm e)
        have e7 : ¬ (lvl tr y = 6 ∨ lvl tr y = 8) := fun e => b2 (hy.calm e)
        have : lvl tr x = 4 ∨ lvl tr x = 5 ∨ lvl tr x = 7 ∨ lvl tr x = 9 ∨ 20 ≤ lvl tr x := by omega
        rcases this with h | h | h | h | h
        · have := l3 h; omega
        · have := l1 h; omega
        · have := l6 h; omega
        · have := l8 h; omega
        · obtain ⟨m1, q1⟩ := findU_some h1
          obtain ⟨m2, q2⟩ := findU_some h2
          have := l10 h
          have w1 := hx.fp (lvl tr x - 20) (by omega) u m1
          have w2 := hy.fp (lvl tr y - 20) (by omega) u2 m2
          omega
  have hcx : ∀ i j, Ex.dst = some i → Ey.clr (.t i j) = false := by
    intro i j e
    cases hc : Ey.clr (.t i j) with
    | false => rfl
    | true =>
      obtain ⟨k, hk, _⟩ := hy.clr i j hc
      rw [hx.dst] at e
      exact absurd (src_looks hk) (ha1 i e)
  have hcy : ∀ i j, Ey.dst = some i → Ex.clr (.t i j) = false := by
    intro i j e
    cases hc : Ex.clr (.t i j) with
    | false => rfl
    | true =>
      obtain ⟨k, hk, _⟩ := hx.clr i j hc
      rw [hy.dst] at e
      exact absurd (src_looks hk) (ha3 i e)
  have hbx : Ex.bx ≠ [] → ∀ n k, Ey.clr (.b n k) = false := by
    intro e n k
    cases hc : Ey.clr (.b n k) with
    | false => rfl
    | true =>
      have e1 := hx.bx e
      have e2 := hy.bclr n k hc
      have e3 := lvl_le (tr := tr) x
      have e6 : ¬ (lvl tr x = 6 ∨ lvl tr x = 8) := fun e6 => e (hx.calm e6)
      have : lvl tr x = 4 ∨ lvl tr x = 5 ∨ lvl tr x = 7 ∨ lvl tr x = 9 ∨ 20 ≤ lvl tr x := by omega
      rcases this with h | h | h | h | h
      · have := l3 h; omega
      · have := l1 h; omega
      · have := l6 h; omega
      · have := l8 h; omega
      · have := l10 h; omega
  have hby : Ey.bx ≠ [] → ∀ n k, Ex.clr (.b n k) = false := by
    intro e n k
    cases hc : Ex.clr (.b n k) with
    | false => rfl
    | true =>
      have e1 := hy.bx e
      have e2 := hx.bclr n k hc
      have e3 := lvl_le (tr := tr) y
      have e6 : ¬ (lvl tr y = 6 ∨ lvl tr y = 8) := fun e6 => e (hy.calm e6)
      have : lvl tr y = 4 ∨ lvl tr y = 5 ∨ lvl tr y = 7 ∨ lvl tr y = 9 ∨ 20 ≤ lvl tr y := by omega
      rcases this with h | h | h | h | h
      · have := l4 h; omega
      · have := l2 h; omega
      · have := l7 h; omega
      · have := l9 h; omega
      · have := l11 h; omega
  have et : (Ey.apply (Ex.apply S)).t = (Ex.apply (Ey.apply S)).t := by
    simp only [Eff.apply]
    cases h1 : Ex.dst with
    | none => rfl
    | some d =>
      cases h2 : Ey.dst with
      | none => rfl
      | some d' =>
        have hne : d ≠ d' := fun e => hdd d h1 (by rw [h2, e])
        funext i
        simp only [upd]
        by_cases e1 : i = d'
        · have h3 : ¬ i = d := fun e => hne (e.symm.trans e1)
          rw [if_pos e1, if_neg h3, if_pos e1]
        · by_cases e2 : i = d
          · rw [if_neg e1, if_pos e2, if_pos e2]
          · rw [if_neg e1, if_neg e2, if_neg e2, if_neg e1]
  have eb : (Ey.apply (Ex.apply S)).box = (Ex.apply (Ey.apply S)).box := by
    funext n
    simp only [Eff.apply]
    rcases hbb n with h | h <;> simp only [h]
  have eg : (Ey.apply (Ex.apply S)).gen = (Ex.apply (Ey.apply S)).gen := by
    funext n
    simp only [Eff.apply]
    rcases hbb n with h | h <;> simp only [h]
  have eo : (Ey.apply (Ex.apply S)).own = (Ex.apply (Ey.apply S)).own := by
    funext l
    cases l with
    | t i j =>
      simp only [Eff.apply]
      by_cases e1 : Ex.dst = some i
      · have e2 : Ey.dst ≠ some i := hdd i e1
        simp [e1, e2, hcx i j e1]
      · by_cases e2 : Ey.dst = some i
        · simp [e1, e2, hcy i j e2]
        · simp only [if_neg e1, if_neg e2]
          cases S.own (.t i j) <;> cases Ex.clr (.t i j) <;> cases Ey.clr (.t i j) <;> rfl
    | b n k =>
      simp only [Eff.apply]
      have hcxx : ∀ u, findU Ex.bx n = some u → Ey.clr (.b n k) = false := fun u hu => hbx (fun e => by rw [e] at hu; simp at hu) n k
      have hcyy : ∀ u, findU Ey.bx n = some u → Ex.clr (.b n k) = false := fun u hu => hby (fun e => by rw [e] at hu; simp at hu) n k
      cases h1 : findU Ex.bx n with
      | none =>
        cases h2 : findU Ey.bx n with
        | none =>
          simp only
          cases S.own (.b n k) <;> cases Ex.clr (.b n k) <;> cases Ey.clr (.b n k) <;> rfl
        | some u2 => simp [hcyy u2 h2]
      | some u =>
        have h2 : findU Ey.bx n = none := by
          rcases hbb n with h | h
          · rw [h1] at h; cases h
          · exact h
        simp [h2, hcxx u h1]
  have ef : (Ey.apply (Ex.apply S)).fo = (Ex.apply (Ey.apply S)).fo := rfl
  generalize hA : Ey.apply (Ex.apply S) = A at et eb eg eo ef
  generalize hB : Ex.apply (Ey.apply S) = B at et eb eg eo ef
  cases A
  cases B
  simp only at et eb eg eo ef
  subst et eb eg eo ef
  rfl

/-- Operations one after the other. -/
def Run (P : Program) (N : Nat) (tr : List Nat) (ops : Array Oper) : List Nat → PS → PS → Prop
  | [], S, S' => S' = S
  | i :: l, S, S' => ∃ o E, ops[i]? = some o ∧ Stp P N tr ops o S E ∧ Run P N tr ops l (E.apply S) S'

theorem run_append {l1 l2 : List Nat} : ∀ {S S' : PS}, Run P N tr ops (l1 ++ l2) S S' ↔ ∃ S1, Run P N tr ops l1 S S1 ∧ Run P N tr ops l2 S1 S' := by
  induction l1 with
  | nil => intro S S'; simp [Run]
  | cons i l ih =>
    intro S S'
    simp only [List.cons_append, Run]
    constructor
    · rintro ⟨o, E, h1, h2, h3⟩
      obtain ⟨S1, h4, h5⟩ := ih.1 h3
      exact ⟨S1, ⟨o, E, h1, h2, h4⟩, h5⟩
    · rintro ⟨S1, ⟨o, E, h1, h2, h4⟩, h5⟩
      exact ⟨o, E, h1, h2, ih.2 ⟨S1, h4, h5⟩⟩

/-- One that does not hang on those ahead of it may go first. -/
theorem run_first {i : Nat} {oi : Oper} (hi : ops[i]? = some oi) : ∀ (l1 : List Nat) (l2 : List Nat) (S S' : PS), (∀ j ∈ l1, ∀ oj, ops[j]? = some oj → indep tr ops oj oi = true) →
    Run P N tr ops (l1 ++ i :: l2) S S' → Run P N tr ops (i :: (l1 ++ l2)) S S'
  | [], l2, S, S', _, h => h
  | j :: l1, l2, S, S', hind, h => by
    simp only [List.cons_append, Run] at h
    obtain ⟨oj, Ej, hj, hsj, hrest⟩ := h
    have hr := run_first hi l1 l2 _ _ (fun k hk => hind k (List.mem_cons_of_mem _ hk)) hrest
    simp only [Run] at hr
    obtain ⟨o', Ei, hi', hsi, hrest2⟩ := hr
    rw [hi] at hi'
    cases hi'
    have hd := hind j List.mem_cons_self oj hj
    have shj := stp_shape hsj
    have hsi0 : Stp P N tr ops oi S Ei := stp_congr (alike_after hd shj).2 hsi
    have shi := stp_shape hsi0
    have hsj1 : Stp P N tr ops oj (Ei.apply S) Ej := stp_congr (alike_after (indep_symm hd) shi).1 hsj
    refine ⟨oi, Ei, hi, hsi0, ?_⟩
    simp only [List.cons_append, Run]
    refine ⟨oj, Ej, hj, hsj1, ?_⟩
    rw [← apply_comm hd shj shi]
    exact hrest2

/-! ### The check -/
/-- The operations that must go ahead of each, in the order of the text (one on which another hangs must stand ahead of it). -/
def befores (o : Oper) : List Nat := (o.after.toList.filter fun e => Region.binds .any e).map (·.on)
def ancs : List Oper → List (List Nat) → List (List Nat)
  | [], acc => acc
  | o :: r, acc => ancs r (acc ++ [((befores o).flatMap fun k => k :: acc.getD k []).eraseDups])
def anc (ops : Array Oper) (i : Nat) : List Nat := (ancs ops.toList []).getD i []
def regOk (tr : List Nat) (ops : Array Oper) : Bool :=
  let A := ancs ops.toList []
  (List.range ops.size).all fun i => ((match ops[i]? with | some y => (befores y).all fun k => decide (k < i) | none => true) && (List.range i).all fun j =>
    (A.getD i []).contains j || (match ops[j]?, ops[i]? with | some x, some y => indep tr ops x y | _, _ => true))

/-- 'j' is to go ahead of 'i'. -/
inductive Ahead (ops : Array Oper) : Nat → Nat → Prop
  | one {j i : Nat} {o : Oper} (h : ops[i]? = some o) (hj : j ∈ befores o) : Ahead ops j i
  | more {j k i : Nat} {o : Oper} (h : ops[i]? = some o) (hk : k ∈ befores o) (hj : Ahead ops j k) : Ahead ops j i

theorem ancs_spec : ∀ (l : List Oper) (acc : List (List Nat)), (∀ k, k < acc.length → ∀ j ∈ acc.getD k [], Ahead ops j k) → (∀ k o, l[k]? = some o → ops[acc.length + k]? = some o) →
    ∀ i, ∀ j ∈ (ancs l acc).getD i [], Ahead ops j i
  | [], acc, h, _, i, j, hj => by
    simp only [ancs] at hj
    by_cases hi : i < acc.length
    · exact h i hi j hj
    · rw [List.getD_eq_getElem?_getD, List.getElem?_eq_none (by omega)] at hj
      simp at hj
  | o :: r, acc, h, hl, i, j, hj => by
    simp only [ancs] at hj
    refine ancs_spec r _ (fun k hk j hj => ?_) (fun k o' hk => ?_) i j hj
    · have hk' : k < acc.length + 1 := by simpa using hk
      rcases Nat.lt_or_eq_of_le (Nat.le_of_lt_succ hk') with hk2 | hk2
      · rw [List.getD_eq_getElem?_getD, List.getElem?_append_left hk2, ← List.getD_eq_getElem?_getD] at hj
        exact h k hk2 j hj
      · subst hk2
        rw [List.getD_eq_getElem?_getD, List.getElem?_append_right (Nat.le_refl _)] at hj
        simp at hj
        have ho : ops[acc.length]? = some o := by
          have := hl 0 o rfl
          simpa using this
        obtain ⟨k, hk, hjk⟩ := hj
        rcases hjk with rfl | hjk
        · exact .one ho hk
        · by_cases hka : k < acc.length
          · exact .more ho hk (h k hka j (by rw [List.getD_eq_getElem?_getD]; exact hjk))
          · rw [List.getElem?_eq_none (by omega)] at hjk
            simp at hjk
    · have := hl (k + 1) o' (by simpa using hk)
      rw [List.length_append, List.length_singleton, show acc.length + 1 + k = acc.length + (k + 1) by omega]
      exact this

theorem regOk_spec (h : regOk tr ops = true) {i j : Nat} (hi : i < ops.size) (hj : j < i) : Ahead ops j i ∨ ∀ x y, ops[j]? = some x → ops[i]? = some y → indep tr ops x y = true := by
  have h1 := List.all_eq_true.1 h i (List.mem_range.2 hi)
  rw [Bool.and_eq_true] at h1
  have h2 := List.all_eq_true.1 h1.2 j (List.mem_range.2 hj)
  simp only [Bool.or_eq_true] at h2
  rcases h2 with h2 | h2
  · left
    have : j ∈ (ancs ops.toList []).getD i [] := by simpa using h2
    exact ancs_spec ops.toList [] (fun k hk => by simp at hk) (fun k o ho => by simpa using ho) i j this
  · right
    intro x y hx hy
    rw [hx, hy] at h2
    exact h2

theorem regOk_lt (h : regOk tr ops = true) {i : Nat} {o : Oper} (ho : ops[i]? = some o) : ∀ k ∈ befores o, k < i := by
  have hi : i < ops.size := (Array.getElem?_eq_some_iff.1 ho).1
  have h1 := List.all_eq_true.1 h i (List.mem_range.2 hi)
  rw [Bool.and_eq_true, ho] at h1
  intro k hk
  simpa using List.all_eq_true.1 h1.1 k hk

section
variable {tch : Env} {w0 : World} {fr0 : Nat → Option Nat} {Q : Exit → Act → World → Prop}

/-- In the order of the text. -/
theorem run_wpOps (hN : dstsOk N ops = true) : ∀ (l : List Nat) (S S' : PS) (a : Act) (w : World) (fr : Nat → Option Nat) (β : Nat → Blk), Run P N tr ops l S S' → Sim N tch w0 fr0 S a w fr β →
    (∀ a' w' fr' β', Sim N tch w0 fr0 S' a' w' fr' β' → Q .normal a' w') → wpOps P ops Q l a w
  | [], S, S', a, w, fr, β, hr, hS, hQ => by
    simp only [Run] at hr
    subst hr
    exact hQ a w fr β hS
  | i :: l, S, S', a, w, fr, β, hr, hS, hQ => by
    simp only [Run] at hr
    obtain ⟨o, E, hi, hs, hrest⟩ := hr
    rw [wpOps_cons]
    exact stp_sound hS hN hi hs fun a' w' fr' β' hS' => run_wpOps hN l _ S' a' w' fr' β' hrest hS' hQ

theorem ready_spec {listed : Array Bool} {i : Nat} (h : i ∈ Region.ready .any ops listed) : i < ops.size ∧ listed.getD i true = false ∧ ∀ o, ops[i]? = some o → ∀ k ∈ befores o, listed.getD k false = true := by
  unfold Region.ready at h
  rw [List.mem_filter] at h
  obtain ⟨h1, h2⟩ := h
  have hi : i < ops.size := by simpa using h1
  simp only [Bool.and_eq_true, Bool.not_eq_true'] at h2
  refine ⟨hi, h2.1, fun o ho k hk => ?_⟩
  have h3 := h2.2
  rw [ho] at h3
  simp only [Option.map_some, Option.getD_some] at h3
  unfold befores at hk
  rw [List.mem_map] at hk
  obtain ⟨e, he, rfl⟩ := hk
  rw [List.mem_filter] at he
  have h4 := Array.all_eq_true_iff_forall_mem.1 h3 e (by simpa using he.1)
  simp only [Bool.or_eq_true, Bool.not_eq_true'] at h4
  rcases h4 with h4 | h4
  · rw [he.2] at h4; cases h4
  · exact h4

/-- In whatever order. -/
theorem run_wpAny (hN : dstsOk N ops = true) (hok : regOk tr ops = true) : ∀ (fuel : Nat) (l : List Nat) (listed : Array Bool) (S S' : PS) (a : Act) (w : World) (fr : Nat → Option Nat) (β : Nat → Blk),
    listed.size = ops.size → l.Pairwise (· < ·) → (∀ i, i ∈ l ↔ (i < ops.size ∧ listed.getD i true = false)) → l.length ≤ fuel →
    (∀ i o, ops[i]? = some o → listed.getD i false = true → ∀ k ∈ befores o, listed.getD k false = true) →
    Run P N tr ops l S S' → Sim N tch w0 fr0 S a w fr β → (∀ a' w' fr' β', Sim N tch w0 fr0 S' a' w' fr' β' → Q .normal a' w') → wpAny P .any ops Q fuel listed a w := by
  intro fuel
  induction fuel with
  | zero =>
    intro l listed S S' a w fr β hsz hpw hmem hlen hcl hr hS hQ
    obtain rfl : l = [] := List.eq_nil_of_length_eq_zero (by omega)
    simp only [Run] at hr
    subst hr
    refine ⟨?_, hQ a w fr β hS⟩
    refine List.eq_nil_iff_forall_not_mem.2 fun i hi => ?_
    have := ready_spec hi
    exact absurd ((hmem i).2 ⟨this.1, this.2.1⟩) (by simp)
  | succ fuel ih =>
    intro l listed S S' a w fr β hsz hpw hmem hlen hcl hr hS hQ
    refine ⟨fun hnil => ?_, fun i hi => ?_⟩
    · cases l with
      | nil =>
        simp only [Run] at hr
        subst hr
        exact hQ a w fr β hS
      | cons i l =>
        exfalso
        have hm := (hmem i).1 List.mem_cons_self
        have hin : i ∈ Region.ready .any ops listed := by
          unfold Region.ready
          refine List.mem_filter.2 ⟨List.mem_range.2 hm.1, ?_⟩
          rw [hm.2]
          simp only [Bool.not_false, Bool.true_and]
          rw [Array.getElem?_eq_getElem hm.1]
          simp only [Option.map_some, Option.getD_some]
          refine Array.all_eq_true_iff_forall_mem.2 fun e he => ?_
          cases hb : Region.binds .any e with
          | false => simp
          | true =>
            have hk : e.on ∈ befores ops[i] := by
              unfold befores
              exact List.mem_map.2 ⟨e, List.mem_filter.2 ⟨by simpa using he, hb⟩, rfl⟩
            have hlt := regOk_lt hok (Array.getElem?_eq_getElem hm.1) _ hk
            cases hl : listed.getD e.on false with
            | true => simp
            | false =>
              have hsz2 : e.on < listed.size := by omega
              have : listed.getD e.on true = false := by
                rw [Array.getD_eq_getD_getElem?, Array.getElem?_eq_getElem hsz2] at hl ⊢
                exact hl
              have hmem2 := (hmem e.on).2 ⟨by omega, this⟩
              rcases List.mem_cons.1 hmem2 with h | h
              · omega
              · have := (List.pairwise_cons.1 hpw).1 _ h
                omega
        rw [hnil] at hin
        cases hin
    · obtain ⟨hlt, hnl, hbf⟩ := ready_spec hi
      have hil := (hmem i).2 ⟨hlt, hnl⟩
      obtain ⟨l1, l2, rfl⟩ := List.append_of_mem hil
      have hoi : ops[i]? = some ops[i] := Array.getElem?_eq_getElem hlt
      -- what must go ahead has gone
      have hah : ∀ j i', Ahead ops j i' → (∀ o, ops[i']? = some o → ∀ k ∈ befores o, listed.getD k false = true) → listed.getD j false = true := by
        intro j i' hA
        induction hA with
        | one h hj => intro hb; exact hb _ h _ hj
        | more h hk _ ih2 => intro hb; exact ih2 fun o ho => hcl _ o ho (hb _ h _ hk)
      have hpw' := List.pairwise_append.1 hpw
      have hind : ∀ j ∈ l1, ∀ oj, ops[j]? = some oj → indep tr ops oj ops[i] = true := by
        intro j hj oj hoj
        have hjlt : j < i := hpw'.2.2 j hj i List.mem_cons_self
        rcases regOk_spec hok hlt hjlt with hA | hI
        · have h1 := hah j i hA hbf
          have h2 := ((hmem j).1 (List.mem_append_left _ hj)).2
          have hjs : j < listed.size := by omega
          rw [Array.getD_eq_getD_getElem?, Array.getElem?_eq_getElem hjs] at h1 h2
          simp at h1 h2
          rw [h1] at h2
          cases h2
        · exact hI oj ops[i] hoj hoi
      have hr2 := run_first hoi l1 l2 S S' hind hr
      simp only [Run] at hr2
      obtain ⟨o, E, ho, hs, hrest⟩ := hr2
      rw [hoi] at ho
      cases ho
      refine stp_sound hS hN hoi hs fun a' w' fr' β' hS' => ?_
      have his : i < listed.size := by omega
      have hget : ∀ k b, (listed.setIfInBounds i true).getD k b = if k = i then true else listed.getD k b := by
        intro k b
        rw [Array.getD_eq_getD_getElem?, Array.getElem?_setIfInBounds, Array.getD_eq_getD_getElem?]
        by_cases e : i = k
        · subst e; simp [his]
        · have e' : ¬ k = i := fun h => e h.symm
          simp [e, e']
      refine ih (l1 ++ l2) (listed.setIfInBounds i true) (E.apply S) S' a' w' fr' β' (by simpa using hsz) ?_ (fun k => ?_) ?_ (fun k o ho hk q hq => ?_) hrest hS' hQ
      · exact List.pairwise_append.2 ⟨hpw'.1, (List.pairwise_cons.1 hpw'.2.1).2, fun x hx y hy => hpw'.2.2 x hx y (List.mem_cons_of_mem _ hy)⟩
      · rw [hget]
        constructor
        · intro hk
          have hk2 : k ∈ l1 ++ i :: l2 := by
            rcases List.mem_append.1 hk with h | h
            · exact List.mem_append_left _ h
            · exact List.mem_append_right _ (List.mem_cons_of_mem _ h)
          have hne : k ≠ i := by
            intro e
            subst e
            rcases List.mem_append.1 hk with h | h
            · have := hpw'.2.2 k h k List.mem_cons_self; omega
            · have := (List.pairwise_cons.1 hpw'.2.1).1 k h; omega
          rw [if_neg hne]
          exact (hmem k).1 hk2
        · rintro ⟨hk1, hk2⟩
          by_cases e : k = i
          · rw [if_pos e] at hk2; cases hk2
          · rw [if_neg e] at hk2
            have := (hmem k).2 ⟨hk1, hk2⟩
            rcases List.mem_append.1 this with h | h
            · exact List.mem_append_left _ h
            · rcases List.mem_cons.1 h with h | h
              · exact absurd h e
              · exact List.mem_append_right _ h
      · simp at hlen ⊢
        omega
      · rw [hget] at hk ⊢
        by_cases e : q = i
        · rw [if_pos e]
        · rw [if_neg e]
          by_cases e2 : k = i
          · subst e2
            rw [hoi] at ho
            cases ho
            exact hbf _ hoi q hq
          · rw [if_neg e2] at hk
            exact hcl k o ho hk q hq
end
end

end BoEng
