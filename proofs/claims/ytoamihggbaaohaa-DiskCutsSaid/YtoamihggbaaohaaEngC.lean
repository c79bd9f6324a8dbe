/- What an operation does to a state, and that a frame and a world follow it. -/
import Derived.Test.YtoamihggbaaohaaEngB
namespace BoEng
open Go Go.RowKit

theorem upd_same {α : Type} (f : Nat → α) (i : Nat) (v : α) : upd f i v i = v := by simp [upd]
theorem upd_ne {α : Type} (f : Nat → α) {i j : Nat} (v : α) (h : j ≠ i) : upd f i v j = f j := by simp [upd, h]

/-- A box as it becomes. -/
structure Upd where
  n : Nat
  g : Nat
  c : List PV
  o : Nat → Bool
def findU : List Upd → Nat → Option Upd
  | [], _ => none
  | u :: l, n => if u.n = n then some u else findU l n

@[simp] theorem findU_nil {n : Nat} : findU [] n = none := rfl
@[simp] theorem findU_one {u : Upd} {n : Nat} : findU [u] n = if u.n = n then some u else none := rfl

structure Eff where
  dst : Option Nat
  r : PV
  ro : Nat → Bool
  clr : Loc → Bool
  bx : List Upd

def Eff.apply (E : Eff) (S : PS) : PS where
  t := match E.dst with | some d => upd S.t d E.r | none => S.t
  box := fun n => match findU E.bx n with | some u => u.c | none => S.box n
  gen := fun n => match findU E.bx n with | some u => u.g | none => S.gen n
  own := fun l => match l with
    | .t i j => if E.dst = some i then E.ro j else S.own (.t i j) && !E.clr (.t i j)
    | .b n k => match findU E.bx n with
      | some u => u.o k
      | none => S.own (.b n k) && !E.clr (.b n k)
  fo := S.fo

theorem put_getD {a : Act} {d : Nat} {v : Value} (hd : d < a.tmps.size) (i : Nat) : (a.put (some d) v).tmps.getD i undef = if i = d then v else a.tmps.getD i undef := by
  simp only [Act.put, Array.getD_eq_getD_getElem?, Array.getElem?_setIfInBounds]
  by_cases h : d = i
  · subst h
    simp [hd]
  · have h' : ¬ i = d := fun e => h e.symm
    simp [h, h']

section
variable {N : Nat} {tch : Env} {w0 : World} {fr0 : Nat → Option Nat} {S : PS} {a : Act} {w : World} {fr : Nat → Option Nat} {β : Nat → Blk}

/-- A value is laid into a slot; no box is written. -/
theorem Sim.putv (h : Sim N tch w0 fr0 S a w fr β) (E : Eff) (hbx : E.bx = []) (v : Value) (hdst : ∀ d, E.dst = some d → d < N) (hv : PRep w fr β S.gen v E.r)
    (hown : ∀ j, E.ro j = true → OwnOk tch.tch w0 w fr (vpart v j) (E.r.part j))
    (hrow : ∀ j, E.ro j = true → ∀ b, rowOf (vpart v j) = some b → ∀ l, S.own l = true → E.clr l = false → rowOf (vat a w β l) ≠ some b)
    (hrow2 : ∀ j j', E.ro j = true → E.ro j' = true → j ≠ j' → ∀ b, rowOf (vpart v j) = some b → rowOf (vpart v j') ≠ some b) :
    Sim N tch w0 fr0 (E.apply S) (a.put E.dst v) w fr β := by
  obtain ⟨dst, r, ro, clr, bx⟩ := E
  subst hbx
  cases dst with
  | none =>
    have hap : ∀ l, ((⟨none, r, ro, clr, []⟩ : Eff).apply S).own l = true → S.own l = true := by
      intro l hl
      cases l <;> simp [Eff.apply] at hl <;> exact hl.1
    refine ⟨h.defers, h.ntmps, h.os, h.tape, h.output, h.size, h.frb, h.frame, h.keep, h.vals, h.boxes, h.binj, fun l hl => ?_, fun n k hl => h.live n k (hap _ hl), fun l l' hl hl' => h.oinj l l' (hap l hl) (hap l' hl'), h.ext⟩
    have := h.own l (hap l hl)
    cases l <;> exact this
  | some d =>
    have hd : d < a.tmps.size := by rw [h.ntmps]; exact hdst d rfl
    have hvt : ∀ i j, vat (a.put (some d) v) w β (.t i j) = if i = d then vpart v j else vat a w β (.t i j) := by
      intro i j
      simp only [vat, put_getD hd]
      split <;> rfl
    have hat : ∀ i j, ((⟨some d, r, ro, clr, []⟩ : Eff).apply S).at (.t i j) = if i = d then r.part j else S.at (.t i j) := by
      intro i j
      simp only [PS.at, Eff.apply, upd]
      split <;> rfl
    have hot : ∀ i j, ((⟨some d, r, ro, clr, []⟩ : Eff).apply S).own (.t i j) = if i = d then ro j else S.own (.t i j) && !clr (.t i j) := by
      intro i j
      simp only [Eff.apply, Option.some.injEq]
      by_cases e : d = i
      · subst e; simp
      · have e' : ¬ i = d := fun x => e x.symm
        simp [e, e']
    have hob : ∀ n k, ((⟨some d, r, ro, clr, []⟩ : Eff).apply S).own (.b n k) = (S.own (.b n k) && !clr (.b n k)) := fun n k => rfl
    -- an old place that is still one's own
    have hold : ∀ l, ((⟨some d, r, ro, clr, []⟩ : Eff).apply S).own l = true →
        (∃ j, l = .t d j ∧ ro j = true ∧ vat (a.put (some d) v) w β l = vpart v j ∧ ((⟨some d, r, ro, clr, []⟩ : Eff).apply S).at l = r.part j) ∨
        (S.own l = true ∧ clr l = false ∧ vat (a.put (some d) v) w β l = vat a w β l ∧ ((⟨some d, r, ro, clr, []⟩ : Eff).apply S).at l = S.at l) := by
      intro l hl
      cases l with
      | t i j =>
        rw [hot] at hl
        by_cases e : i = d
        · subst e
          rw [if_pos rfl] at hl
          exact .inl ⟨j, rfl, hl, by rw [hvt, if_pos rfl], by rw [hat, if_pos rfl]⟩
        · rw [if_neg e] at hl
          simp at hl
          exact .inr ⟨hl.1, hl.2, by rw [hvt, if_neg e], by rw [hat, if_neg e]⟩
      | b n k =>
        rw [hob] at hl
        simp at hl
        exact .inr ⟨hl.1, hl.2, rfl, rfl⟩
    refine ⟨h.defers, by simp [Act.put, h.ntmps], h.os, h.tape, h.output, h.size, h.frb, h.frame, h.keep, fun i => ?_, h.boxes, h.binj, fun l hl => ?_, fun n k hl => ?_, fun l l' hl hl' hne b hb => ?_, h.ext⟩
    · rw [put_getD hd]
      simp only [Eff.apply, upd]
      split
      · exact hv
      · exact h.vals i
    · rcases hold l hl with ⟨j, rfl, hj, e1, e2⟩ | ⟨ho, hc, e1, e2⟩
      · rw [e1, e2]; exact hown j hj
      · rw [e1, e2]; exact h.own l ho
    · rw [hob] at hl
      simp at hl
      exact h.live n k hl.1
    · rcases hold l hl with ⟨j, rfl, hj, e1, e2⟩ | ⟨ho, hc, e1, e2⟩
      · rw [e1] at hb
        rcases hold l' hl' with ⟨j', rfl, hj', e1', e2'⟩ | ⟨ho', hc', e1', e2'⟩
        · rw [e1']
          exact hrow2 j j' hj hj' (fun e => hne (e ▸ rfl)) b hb
        · rw [e1']
          exact hrow j hj b hb l' ho' hc'
      · rw [e1] at hb
        rcases hold l' hl' with ⟨j', rfl, hj', e1', e2'⟩ | ⟨ho', hc', e1', e2'⟩
        · rw [e1']
          intro hb'
          exact hrow j' hj' b hb' l ho hc hb
        · rw [e1']
          exact h.oinj l l' ho ho' hne b hb

/-- A value of which nothing is one's own. -/
theorem Sim.put0 (h : Sim N tch w0 fr0 S a w fr β) (dst : Option Nat) (v : Value) (r : PV) (hdst : ∀ d, dst = some d → d < N) (hv : PRep w fr β S.gen v r) :
    Sim N tch w0 fr0 ((⟨dst, r, fun _ => false, fun _ => false, []⟩ : Eff).apply S) (a.put dst v) w fr β :=
  h.putv ⟨dst, r, fun _ => false, fun _ => false, []⟩ rfl v hdst hv (by simp) (by simp) (by simp)

/-- A slice without room is one's own. -/
theorem Sim.put1 (h : Sim N tch w0 fr0 S a w fr β) (dst : Option Nat) (A : Option Addr) (n : Nat) (xs : List DV) (hdst : ∀ d, dst = some d → d < N) (hv : DRep w fr (.slice A n n) (.slice xs)) :
    Sim N tch w0 fr0 ((⟨dst, .d (.slice xs), fun _ => true, fun _ => false, []⟩ : Eff).apply S) (a.put dst (.slice A n n)) w fr β := by
  refine h.putv ⟨dst, .d (.slice xs), fun _ => true, fun _ => false, []⟩ rfl _ hdst (.d _ _ hv) (fun j _ => ⟨xs, rfl, .inl ⟨A, n, rfl⟩⟩) (fun j _ b hb => ?_) (fun j j' _ _ _ b hb => ?_)
  · cases A <;> simp [vpart, rowOf] at hb
  · cases A <;> simp [vpart, rowOf] at hb

/-- What a slot holds is laid into another one, and what was one's own there is one's own here. -/
theorem Sim.putmv (h : Sim N tch w0 fr0 S a w fr β) (dst : Option Nat) (s : Nat) (hdst : ∀ d, dst = some d → d < N) :
    Sim N tch w0 fr0 ((⟨dst, S.t s, fun j => S.own (.t s j), fun l => match l with | .t i _ => i == s | _ => false, []⟩ : Eff).apply S) (a.put dst (a.tmps.getD s undef)) w fr β := by
  refine h.putv ⟨dst, S.t s, fun j => S.own (.t s j), fun l => match l with | .t i _ => i == s | _ => false, []⟩ rfl _ hdst (h.vals s) (fun j hj => h.own (.t s j) hj) (fun j hj b hb l hl hc => ?_) (fun j j' hj hj' hne b hb => ?_)
  · refine h.oinj (.t s j) l hj hl (fun e => ?_) b hb
    subst e
    simp at hc
  · exact h.oinj (.t s j) (.t s j') hj hj' (fun e => hne (by cases e; rfl)) b hb

/-- A part of what a slot holds. -/
theorem Sim.putpart (h : Sim N tch w0 fr0 S a w fr β) (dst : Option Nat) (s k : Nat) (vs : List Value) (ps : List PV) (p : PV) (v : Value) (hs : S.t s = .tup ps) (hp : ps[k]? = some p) (ha : a.tmps.getD s undef = .tuple vs.toArray) (hv : vs[k]? = some v)
    (hpt : ∀ q, p ≠ .tup q) (hdst : ∀ d, dst = some d → d < N) :
    Sim N tch w0 fr0 ((⟨dst, p, fun j => j == 0 && S.own (.t s k), fun l => l == .t s k, []⟩ : Eff).apply S) (a.put dst v) w fr β := by
  have hvk : vpart (a.tmps.getD s undef) k = v := by rw [ha]; simp [vpart, hv]
  have hpk : (S.t s).part k = p := by rw [hs]; simp [PV.part, hp]
  have hr : PRep w fr β S.gen v p := by
    have := h.vals s
    rw [hs, ha] at this
    cases this with
    | tup vs' ps' hl hh => exact hh k v p hv hp
  have hp0 : S.own (.t s k) = true → p.part 0 = p := by
    intro ho
    obtain ⟨xs, e, hx⟩ := h.own (.t s k) ho
    simp only [PS.at, hpk] at e
    rw [e]
    rfl
  have hv0 : S.own (.t s k) = true → vpart v 0 = v := by
    intro ho
    obtain ⟨xs, e, hx⟩ := h.own (.t s k) ho
    simp only [vat, hvk] at hx
    rcases hx with ⟨A, n, rfl⟩ | ⟨b, c, cur, E, sz, rfl, _⟩ <;> rfl
  refine h.putv ⟨dst, p, fun j => j == 0 && S.own (.t s k), fun l => l == .t s k, []⟩ rfl _ hdst hr (fun j hj => ?_) (fun j hj b hb l hl hc => ?_) (fun j j' hj hj' hne b hb => ?_)
  · simp at hj
    obtain ⟨rfl, ho⟩ := hj
    have := h.own (.t s k) ho
    simp only [vat, PS.at, hvk, hpk] at this
    rw [hv0 ho, hp0 ho]
    exact this
  · simp at hj
    obtain ⟨rfl, ho⟩ := hj
    rw [hv0 ho] at hb
    exact h.oinj (.t s k) l ho hl (fun e => by subst e; simp at hc) b (by simp only [vat, hvk]; exact hb)
  · simp at hj hj'
    omega

/-- What is one's own is told of other places with the same values. -/
theorem Sim.reown (h : Sim N tch w0 fr0 S a w fr β) (own' : Loc → Bool) (src : Loc → Loc) (hs : ∀ l, own' l = true → S.own (src l) = true ∧ S.at l = S.at (src l) ∧ vat a w β l = vat a w β (src l))
    (hinj : ∀ l l', own' l = true → own' l' = true → src l = src l' → l = l') (hlive : ∀ n k, own' (.b n k) = true → 0 < S.gen n ∧ k < (S.box n).length) :
    Sim N tch w0 fr0 { S with own := own' } a w fr β := by
  refine ⟨h.defers, h.ntmps, h.os, h.tape, h.output, h.size, h.frb, h.frame, h.keep, h.vals, h.boxes, h.binj, fun l hl => ?_, hlive, fun l l' hl hl' hne b hb => ?_, h.ext⟩
  · obtain ⟨q1, q2, q3⟩ := hs l hl
    have := h.own (src l) q1
    rw [← q3, ← q2] at this
    exact this
  · obtain ⟨q1, _, q3⟩ := hs l hl
    obtain ⟨q1', _, q3'⟩ := hs l' hl'
    rw [q3] at hb
    rw [q3']
    exact h.oinj _ _ q1 q1' (fun e => hne (hinj l l' hl hl' e)) b hb
end

end BoEng
