/- The engine, texts R to Z. -/
import Derived.Test.YtimlalndjfmnbaaDoorEngQ
import Derived.ProofKit
import Derived.OpenShut
import Derived.ShutString
import Derived.ChangeOld
import Derived.Carry
set_option linter.unusedVariables false
set_option linter.unusedSimpArgs false
/- Whole codes and whole functions. -/
namespace BoEng
open Go Go.RowKit

/-! ### A code under labels, none of which is jumped to -/
def noGoto (Q : Exit → Act → World → Prop) (e : Exit) (a : Act) (w : World) : Prop := match e with | .goto _ => False | e => Q e a w
theorem wp_scope {P : Program} {c : Code} {Q : Exit → Act → World → Prop} {a : Act} {w : World} (h : c.wp P (noGoto Q) a w) : (Code.scope c).wp P Q a w := by
  intro b k cs
  have hs : ∀ a w, step P (lone (b.at a (.code (.scope c) :: k)) cs w) = .next (lone (b.at a (.code c :: .inScope c :: k)) cs w) :=
    fun a w => step_lone_go (by simp [stepG, stepG.exec, Frame.at])
  have he : ∀ a w, step P (lone (b.at a (.inScope c :: k)) cs w) = .next (lone (b.at a k) cs w) :=
    fun a w => step_lone_go (by simp [stepG, stepG.exec, Frame.at])
  obtain ⟨e, a₁, w₁, hq, harr⟩ := h b (.inScope c :: k) cs
  cases e with
  | normal => exact ⟨.normal, a₁, w₁, hq, .head (hs a w) (Steps.trans harr (.one (he a₁ w₁)))⟩
  | exit id' => exact ⟨.exit id', a₁, w₁, hq, fun k' hk => .head (hs a w) (harr k' (by simp [exitTo, hk]))⟩
  | goto l => exact hq.elim
  | ret => exact ⟨_, a₁, w₁, hq, .of_steps (.one (hs a w)) harr⟩
  | panic ch => exact ⟨_, a₁, w₁, hq, .of_steps (.one (hs a w)) harr⟩
  | outgrown => exact ⟨_, a₁, w₁, hq, .of_steps (b := b) (k := k) (cs := cs) (e := .outgrown) (.one (hs a w)) harr⟩

/-! ### The weakest precondition on states -/
def owp (P : Program) (N : Nat) (tr : List Nat) (o : Oper) (S : PS) (K : PS → Prop) : Prop :=
  match o.op with
  | .call ⟨.value x, args, _⟩ => dstOk N o = true ∧
    match fnAt (S.ev x) args.toList.isEmpty with
    | some (f, caps) =>
      if isCb tr o = true then ∃ (ns : List Nat) (fo : Nat) (r : PV) (ro : Nat → Bool) (post : List Upd), (∀ n ∈ ns, 0 < S.gen n) ∧ Meets P fo (fun n => S.gen n + 1) f (args.toList.map S.ev ++ caps) (ns.map (snap S)) r ro post ∧ (isOut tr o = true → ∀ u ∈ post, nws tr S.fo u.n = true) ∧ K ((⟨o.dst, r, ro, fun _ => false, post⟩ : Eff).apply S)
      else (args.toList.map S.ev ++ caps).all ptrFree = true ∧ ∃ r ro, Holds P f (args.toList.map S.ev ++ caps) r ro ∧ K ((callE o r ro).apply S)
    | none => False
  | _ =>
    match effF P N tr S o with
    | some E => K (E.apply S)
    | none => False

def rwp (P : Program) (N : Nat) (tr : List Nat) (ops : Array Oper) : List Oper → (PS → Prop) → PS → Prop
  | [], Q, S => Q S
  | o :: l, Q, S => if gd ops o S = true then owp P N tr o S (rwp P N tr ops l Q) else dstOk N o = true ∧ rwp P N tr ops l Q ((skipE o).apply S)

def pwp (P : Program) (N : Nat) (tr : List Nat) : Code → (Exit → PS → Prop) → PS → Prop
  | .skip, Q, S => Q .normal S
  | .region _ ops _, Q, S => rwp P N tr ops ops.toList (Q .normal) S
  | .seq a b, Q, S => pwp P N tr a (fun e S' => match e with | .normal => pwp P N tr b Q S' | e => Q e S') S
  | .cond c a b, Q, S => match S.ev c with | .d (.bool t) => if t = true then pwp P N tr a Q S else pwp P N tr b Q S | _ => False
  | .block id c, Q, S => pwp P N tr c (fun e S' => match e with | .exit id' => if id' = id then Q .normal S' else Q (.exit id') S' | e => Q e S') S
  | .loop c, Q, S => ∃ (I : PS → Prop) (μ : PS → Nat), I S ∧ ∀ S1, I S1 → pwp P N tr c (fun e S' => match e with | .normal => I S' ∧ μ S' < μ S1 | e => Q e S') S1
  | .scope c, Q, S => pwp P N tr c Q S
  | .exit id, Q, S => Q (.exit id) S
  | .label _, Q, S => Q .normal S
  | .ret, Q, S => Q .ret S
  | _, _, _ => False

def codeOk (N : Nat) (tr : List Nat) : Code → Bool
  | .skip => true
  | .region _ ops draw => dstsOk N ops && (!draw || regOk tr ops)
  | .seq a b => codeOk N tr a && codeOk N tr b
  | .cond _ a b => codeOk N tr a && codeOk N tr b
  | .block _ c => codeOk N tr c
  | .loop c => codeOk N tr c
  | .scope c => codeOk N tr c
  | .exit _ => true
  | .label _ => true
  | .ret => true
  | _ => false

section
variable {P : Program} {N : Nat} {tr : List Nat} {ops : Array Oper}

theorem owp_step {o : Oper} {S : PS} {K : PS → Prop} (h : owp P N tr o S K) : ∃ E, opStep P N tr o S E ∧ K (E.apply S) := by
  have key : (match effF P N tr S o with | some E => K (E.apply S) | none => False) → ∃ E, effF P N tr S o = some E ∧ K (E.apply S) := by
    intro h
    split at h
    · rename_i E he
      exact ⟨E, he, h⟩
    · exact h.elim
  unfold owp at h
  unfold opStep
  cases ho : o.op with
  | call c =>
    obtain ⟨cal, args, ts⟩ := c
    cases cal with
    | value x =>
      simp only [ho] at h ⊢
      obtain ⟨hd, h⟩ := h
      split at h
      · rename_i f caps hx
        split at h
        · rename_i hcb
          obtain ⟨ns, fo, r, ro, post, hns, hM, hout, hK⟩ := h
          exact ⟨_, ⟨hd, by rw [if_pos hcb]; exact ⟨f, caps, ns, fo, r, ro, post, hx, hns, hM, hout, rfl⟩⟩, hK⟩
        · rename_i hcb
          obtain ⟨hall, r, ro, hH, hK⟩ := h
          exact ⟨_, ⟨hd, by rw [if_neg hcb]; exact ⟨f, caps, r, ro, hx, hall, hH, rfl⟩⟩, hK⟩
      · exact h.elim
    | _ => simp only [ho] at h ⊢; exact key h
  | _ => simp only [ho] at h ⊢; exact key h

theorem rwp_run : ∀ (l : List Oper) (k : Nat) (Q : PS → Prop) (S : PS), l = ops.toList.drop k → rwp P N tr ops l Q S → ∃ S', Run P N tr ops (List.range' k l.length) S S' ∧ Q S'
  | [], k, Q, S, _, h => ⟨S, rfl, h⟩
  | o :: l, k, Q, S, hl, h => by
    have hk : ops.toList[k]? = some o := by
      have := congrArg (fun l => l[0]?) hl
      simp at this
      simpa using this.symm
    have hl' : l = ops.toList.drop (k + 1) := by
      have := congrArg List.tail hl
      simp at this
      simpa using this
    unfold rwp at h
    rw [List.length_cons, List.range'_succ]
    simp only [Run]
    split at h
    · rename_i hg
      obtain ⟨E, hs, hK⟩ := owp_step h
      obtain ⟨S', hr, hQ⟩ := rwp_run l (k + 1) Q _ hl' hK
      exact ⟨S', ⟨o, E, by simpa using hk, by unfold Stp; rw [if_pos hg]; exact hs, hr⟩, hQ⟩
    · rename_i hg
      obtain ⟨S', hr, hQ⟩ := rwp_run l (k + 1) Q _ hl' h.2
      exact ⟨S', ⟨o, skipE o, by simpa using hk, by unfold Stp; rw [if_neg hg]; exact ⟨h.1, rfl⟩, hr⟩, hQ⟩

variable {tch : Env} {w0 : World} {fr0 : Nat → Option Nat}

theorem Sim.drawn {S : PS} {a : Act} {w : World} {fr : Nat → Option Nat} {β : Nat → Blk} (h : Sim N tch w0 fr0 S a w fr β) : Sim N tch w0 fr0 S a { w with drawn := w.drawn + 1 } fr β :=
  h.fresh ⟨rfl, rfl, rfl, Nat.le_refl _, fun _ _ => rfl, fun _ _ => rfl, h.frb⟩

theorem pwp_mono {c : Code} : ∀ {Q Q' : Exit → PS → Prop} {S : PS}, (∀ e S, Q e S → Q' e S) → pwp P N tr c Q S → pwp P N tr c Q' S := by
  have rmono : ∀ (ops : Array Oper) (l : List Oper) {Q Q' : PS → Prop} {S : PS}, (∀ S, Q S → Q' S) → rwp P N tr ops l Q S → rwp P N tr ops l Q' S := by
    intro ops l
    induction l with
    | nil => intro Q Q' S hq h; exact hq S h
    | cons o l ih =>
      intro Q Q' S hq h
      unfold rwp at h ⊢
      split at h
      · rename_i hg
        rw [if_pos hg]
        unfold owp at h ⊢
        split at h
        · refine ⟨h.1, ?_⟩
          have h2 := h.2
          split at h2
          · split at h2
            · rename_i hcb
              obtain ⟨ns, fo, r, ro, post, hns, hM, hout, hK⟩ := h2
              rw [if_pos hcb]
              exact ⟨ns, fo, r, ro, post, hns, hM, hout, ih hq hK⟩
            · rename_i hcb
              obtain ⟨ha, r, ro, hH, hK⟩ := h2
              rw [if_neg hcb]
              exact ⟨ha, r, ro, hH, ih hq hK⟩
          · exact h2.elim
        · split at h
          · exact ih hq h
          · exact h.elim
      · rename_i hg
        rw [if_neg hg]
        exact ⟨h.1, ih hq h.2⟩
  induction c with
  | skip => intro Q Q' S hq h; exact hq _ _ h
  | region id ops draw => intro Q Q' S hq h; exact rmono ops _ (fun S hS => hq .normal S hS) h
  | seq a b iha ihb =>
    intro Q Q' S hq h
    refine iha (fun e S hS => ?_) h
    cases e <;> first | exact ihb hq hS | exact hq _ _ hS
  | cond c a b iha ihb =>
    intro Q Q' S hq h
    unfold pwp at h ⊢
    split at h
    · split at h
      · rename_i ht; rw [if_pos ht]; exact iha hq h
      · rename_i ht; rw [if_neg ht]; exact ihb hq h
    · exact h.elim
  | block id c ih =>
    intro Q Q' S hq h
    refine ih (fun e S hS => ?_) h
    cases e with
    | exit id' =>
      simp only at hS ⊢
      split at hS
      · rename_i e; rw [if_pos e]; exact hq _ _ hS
      · rename_i e; rw [if_neg e]; exact hq _ _ hS
    | _ => exact hq _ _ hS
  | loop c ih =>
    intro Q Q' S hq h
    obtain ⟨I, μ, h0, hr⟩ := h
    refine ⟨I, μ, h0, fun S1 h1 => ih (fun e S hS => ?_) (hr S1 h1)⟩
    cases e <;> first | exact hS | exact hq _ _ hS
  | scope c ih => intro Q Q' S hq h; exact ih hq h
  | exit id => intro Q Q' S hq h; exact hq _ _ h
  | label l => intro Q Q' S hq h; exact hq _ _ h
  | ret => intro Q Q' S hq h; exact hq _ _ h
  | _ => intro Q Q' S hq h; exact h.elim

/-- Nothing jumps to a label here. -/
def scQ (Q : Exit → PS → Prop) (e : Exit) (S : PS) : Prop := match e with | .goto _ => False | e => Q e S
theorem pwp_sc : ∀ {c : Code} {Q : Exit → PS → Prop} {S : PS}, pwp P N tr c Q S → pwp P N tr c (scQ Q) S := by
  intro c
  induction c with
  | skip => intro Q S h; exact h
  | region id ops draw => intro Q S h; exact h
  | seq a b iha ihb =>
    intro Q S h
    unfold pwp
    refine pwp_mono (fun e S hS => ?_) (iha h)
    cases e with
    | normal => exact ihb hS
    | _ => exact hS
  | cond c a b iha ihb =>
    intro Q S h
    unfold pwp at h ⊢
    split at h
    · rename_i t hc
      try (rw [hc]; simp only)
      split at h
      · rename_i ht; rw [if_pos ht]; exact iha h
      · rename_i ht; rw [if_neg ht]; exact ihb h
    · exact h.elim
  | block id c ih =>
    intro Q S h
    unfold pwp
    refine pwp_mono (fun e S hS => ?_) (ih h)
    cases e with
    | exit id' =>
      simp only [scQ] at hS ⊢
      split at hS
      · rename_i e; rw [if_pos e]; exact hS
      · rename_i e; rw [if_neg e]; exact hS
    | _ => exact hS
  | loop c ih =>
    intro Q S h
    obtain ⟨I, μ, h0, hr⟩ := h
    refine ⟨I, μ, h0, fun S1 h1 => pwp_mono (fun e S hS => ?_) (ih (hr S1 h1))⟩
    cases e <;> exact hS
  | scope c ih => intro Q S h; exact ih h
  | exit id => intro Q S h; exact h
  | label l => intro Q S h; exact h
  | ret => intro Q S h; exact h
  | _ => intro Q S h; exact h.elim

/-- The states and the frames go together, through a whole code. -/
theorem pwp_sound (hG : GEnv P tch w0) (hm : P.follows .mixedOrders = true) : ∀ (c : Code), codeOk N tr c = true → ∀ (Q : Exit → PS → Prop) (S : PS), pwp P N tr c Q S → ∀ (a : Act) (w : World) (fr : Nat → Option Nat) (β : Nat → Blk), Sim N tch w0 fr0 S a w fr β →
    c.wp P (fun e a' w' => ∃ S' fr' β', Q e S' ∧ Sim N tch w0 fr0 S' a' w' fr' β') a w := by
  intro c
  induction c with
  | skip => intro _ Q S h a w fr β hS; exact wp_skip ⟨S, fr, β, h, hS⟩
  | region id ops draw =>
    intro hok Q S h a w fr β hS
    simp only [codeOk, Bool.and_eq_true, Bool.or_eq_true, Bool.not_eq_true'] at hok
    obtain ⟨S', hr, hQ⟩ := rwp_run ops.toList 0 (Q .normal) S (by simp) h
    cases draw with
    | false =>
      refine wp_region ?_
      have : List.range' 0 ops.toList.length = List.range ops.size := by rw [List.range_eq_range']; simp
      rw [this] at hr
      exact run_wpOps (tch := tch) (w0 := w0) (fr0 := fr0) hG hok.1 _ S S' a w fr β hr hS fun a' w' fr' β' h' => ⟨S', fr', β', hQ, h'⟩
    | true =>
      have hreg : regOk tr ops = true := by
        rcases hok.2 with h | h
        · cases h
        · exact h
      refine wp_region_any hm ?_
      have e1 : List.range' 0 ops.toList.length = List.range ops.size := by rw [List.range_eq_range']; simp
      rw [e1] at hr
      refine run_wpAny (tch := tch) (w0 := w0) (fr0 := fr0) hG hok.1 hreg ops.size (List.range ops.size) _ S S' a _ fr β (by simp) ?_ (fun i => ?_) (by simp) (fun i o ho hl => ?_) hr hS.drawn fun a' w' fr' β' h' => ⟨S', fr', β', hQ, h'⟩
      · exact List.pairwise_lt_range
      · simp only [List.mem_range, Array.getD_eq_getD_getElem?, Array.getElem?_replicate]
        constructor
        · intro hi; exact ⟨hi, by simp [hi]⟩
        · intro hi; exact hi.1
      · exfalso
        simp only [Array.getD_eq_getD_getElem?, Array.getElem?_replicate] at hl
        split at hl <;> simp at hl
  | seq x y ihx ihy =>
    intro hok Q S h a w fr β hS
    simp only [codeOk, Bool.and_eq_true] at hok
    refine wp_seq (wp_mono (ihx hok.1 _ S h a w fr β hS) fun e a' w' hq => ?_)
    obtain ⟨S', fr', β', hq, hS'⟩ := hq
    cases e with
    | normal => exact ihy hok.2 Q S' hq a' w' fr' β' hS'
    | _ => exact ⟨S', fr', β', hq, hS'⟩
  | cond c x y ihx ihy =>
    intro hok Q S h a w fr β hS
    simp only [codeOk, Bool.and_eq_true] at hok
    unfold pwp at h
    split at h
    · rename_i t hc
      have hv := hS.ev c
      rw [hc] at hv
      refine wp_cond (inv_bool hv) ?_
      cases t with
      | true => rw [if_pos rfl] at h ⊢; exact ihx hok.1 Q S h a w fr β hS
      | false => rw [if_neg (by simp)] at h ⊢; exact ihy hok.2 Q S h a w fr β hS
    · exact h.elim
  | block id c ih =>
    intro hok Q S h a w fr β hS
    refine wp_block (wp_mono (ih hok _ S h a w fr β hS) fun e a' w' hq => ?_)
    obtain ⟨S', fr', β', hq, hS'⟩ := hq
    cases e with
    | exit id' =>
      simp only [Exit.inBlock]
      simp only at hq
      split at hq
      · rename_i e; rw [if_pos e]; exact ⟨S', fr', β', hq, hS'⟩
      · rename_i e; rw [if_neg e]; exact ⟨S', fr', β', hq, hS'⟩
    | _ => exact ⟨S', fr', β', hq, hS'⟩
  | loop c ih =>
    intro hok Q S h a w fr β hS
    obtain ⟨I, μ, h0, hr⟩ := h
    refine wp_loop_ghost (fun n a w => ∃ S fr β, I S ∧ μ S = n ∧ Sim N tch w0 fr0 S a w fr β) (μ S) ⟨S, fr, β, h0, rfl, hS⟩ ?_
    rintro n a1 w1 ⟨S1, fr1, β1, h1, hn, hS1⟩
    refine wp_mono (ih hok _ S1 (hr S1 h1) a1 w1 fr1 β1 hS1) fun e a' w' hq => ?_
    obtain ⟨S', fr', β', hq, hS'⟩ := hq
    cases e with
    | normal => exact ⟨μ S', by rw [← hn]; exact hq.2, S', fr', β', hq.1, rfl, hS'⟩
    | _ => exact ⟨S', fr', β', hq, hS'⟩
  | scope c ih =>
    intro hok Q S h a w fr β hS
    refine wp_scope (wp_mono (ih hok _ S (pwp_sc h) a w fr β hS) fun e a' w' hq => ?_)
    obtain ⟨S', fr', β', hq, hS'⟩ := hq
    cases e with
    | goto l => exact hq.elim
    | _ => exact ⟨S', fr', β', hq, hS'⟩
  | exit id => intro _ Q S h a w fr β hS; exact wp_exit ⟨S, fr, β, h, hS⟩
  | label l => intro _ Q S h a w fr β hS; exact wp_label ⟨S, fr, β, h, hS⟩
  | ret => intro _ Q S h a w fr β hS; exact wp_ret ⟨S, fr, β, h, hS⟩
  | _ => intro _ Q S h; exact h.elim
end

end BoEng

/- Whole functions. -/
namespace BoEng
open Go Go.RowKit

/-- What a result variable tells, and whether it is one's own: boxes are let go. -/
def resPV (P : Program) (S : PS) : ResultVar → Option (PV × Bool)
  | .tmp t =>
    match S.t t with
    | .d x => some (.d x, S.own (.t t 0) && isSl (.d x))
    | .cptr c => some (.cptr c, false)
    | .fn f [] => some (.fn f [], false)
    | .bsl n g len sz ag => (thawed S n g len sz ag).map fun xs => (.d (.slice xs), decide (0 < len ∧ (S.box n).length = len * sz))
    | .pa cs => (frzL S cs).map fun x => (.d (.agg x.1), false)
    | _ => none
  | .cell a t => (loadPV P S t (.tmp a)).bind fun r => (frzV S r).map fun x => (.d x.1, false)
def resAll (P : Program) (S : PS) : List ResultVar → Option (List (PV × Bool))
  | [] => some []
  | r :: l => (resPV P S r).bind fun x => (resAll P S l).map (x :: ·)
/-- What a result variable tells to one who has handed boxes. -/
def resM (P : Program) (S : PS) : ResultVar → Option (PV × Bool)
  | .tmp t => match S.t t with | .tup _ => none | p => some (p, S.own (.t t 0) && isSl p)
  | .cell a t => match loadPV P S t (.tmp a) with | some (.tup _) => none | some p => some (p, false) | none => none
def resAllM (P : Program) (S : PS) : List ResultVar → Option (List (PV × Bool))
  | [] => some []
  | r :: l => (resM P S r).bind fun x => (resAllM P S l).map (x :: ·)
def pack : List (PV × Bool) → PV
  | [x] => x.1
  | l => .tup (l.map (·.1))
def tmpsOf : List ResultVar → List Nat
  | [] => []
  | .tmp t :: l => t :: tmpsOf l
  | _ :: l => tmpsOf l
def resOk (l : List ResultVar) : Bool := decide (tmpsOf l).Nodup
/-- The boxes that are handed out as slices. -/
def srcsOf (S : PS) : List ResultVar → List Nat
  | [] => []
  | .tmp t :: l => match S.t t with | .bsl n _ _ _ _ => n :: srcsOf S l | _ => srcsOf S l
  | _ :: l => srcsOf S l
/-- What a function hands back. -/
def retQ (P : Program) (rs : List ResultVar) (r : PV) (ro : Nat → Bool) (e : Exit) (S : PS) : Prop :=
  match e with
  | .normal => ∃ l, resAll P S rs = some l ∧ r = pack l ∧ (srcsOf S rs).Nodup ∧ ∀ j, ro j = true → (l.getD j (.any, false)).2 = true
  | .ret => ∃ l, resAll P S rs = some l ∧ r = pack l ∧ (srcsOf S rs).Nodup ∧ ∀ j, ro j = true → (l.getD j (.any, false)).2 = true
  | _ => False
/-- The same, where boxes were handed. -/
def retM (P : Program) (rs : List ResultVar) (r : PV) (ro : Nat → Bool) (post : List Upd) (e : Exit) (S : PS) : Prop :=
  match e with
  | .normal => (∃ l, resAllM P S rs = some l ∧ r = pack l ∧ ∀ j, ro j = true → (l.getD j (.any, false)).2 = true) ∧ ∀ u ∈ post, S.gen u.n = u.g ∧ S.box u.n = u.c ∧ ∀ k, u.o k = true → S.own (.b u.n k) = true
  | .ret => (∃ l, resAllM P S rs = some l ∧ r = pack l ∧ ∀ j, ro j = true → (l.getD j (.any, false)).2 = true) ∧ ∀ u ∈ post, S.gen u.n = u.g ∧ S.box u.n = u.c ∧ ∀ k, u.o k = true → S.own (.b u.n k) = true
  | _ => False

section
variable {P : Program} {N : Nat} {S : PS} {a : Act} {w0 w : World} {fr0 fr : Nat → Option Nat} {β : Nat → Blk} {tch : Env}

open Classical in
/-- How much of a block is a box's content. -/
noncomputable def boxLen (S : PS) (β : Nat → Blk) (b : Nat) : Nat := if h : ∃ n, 0 < S.gen n ∧ 0 < (β n).c ∧ (β n).b = b then (S.box h.choose).length else 0
theorem boxLen_eq (h : Sim N tch w0 fr0 S a w fr β) {n : Nat} (hn : 0 < S.gen n) (hc : 0 < (β n).c) : boxLen S β (β n).b = (S.box n).length := by
  have hx : ∃ m, 0 < S.gen m ∧ 0 < (β m).c ∧ (β m).b = (β n).b := ⟨n, hn, hc, rfl⟩
  unfold boxLen
  rw [dif_pos hx]
  obtain ⟨h1, h2, h3⟩ := hx.choose_spec
  rw [h.binj _ n h1 hn h2 hc h3]

/-- The boxes are let go: their content is written no more. -/
noncomputable def letGo (w0 : World) (S : PS) (β : Nat → Blk) (fr : Nat → Option Nat) : Nat → Option Nat := fun b => if b < w0.heap.size then fr b else if fr b = some 0 then some (boxLen S β b) else fr b

theorem letGo_dext : DExt w fr w (letGo w0 S β fr) := by
  refine ⟨fun _ _ _ h _ => h, fun b f' _ h => ?_, Nat.le_refl _⟩
  unfold letGo at h
  split at h
  · exact ⟨f', h, Nat.le_refl _⟩
  · split at h
    · rename_i h0
      exact ⟨0, h0, Nat.zero_le _⟩
    · exact ⟨f', h, Nat.le_refl _⟩
theorem letGo_at (h : Sim N Env.free w0 fr0 S a w fr β) {n : Nat} (hn : 0 < S.gen n) (hc : 0 < (β n).c) : letGo w0 S β fr (β n).b = some (S.box n).length := by
  have hB := h.boxes n hn
  have hm : w0.heap.size ≤ (β n).b := (hB.mine hc).resolve_right (by simp [Env.free])
  unfold letGo
  rw [if_neg (by omega), if_pos (hB.reg hc), boxLen_eq h hn hc]
theorem letGo_row {b f : Nat} (hf : fr b = some f) (h0 : 0 < f) : letGo w0 S β fr b = some f := by
  unfold letGo
  split
  · exact hf
  · rw [hf, if_neg (by simp; omega)]

theorem cell_run (h : Sim N tch w0 fr0 S a w fr β) {c : Nat} {t : TypeId} {r : PV} (hl : loadPV P S t (.tmp c) = some r) {v : Value} (hrun : (Instr.loadAt t (a.tmps.getD c undef)).run P w = .ok v w) :
    (do loadVar t (← asAddr (a.tmps.getD c undef)) : Sem Value).run P w = .ok v w := by
  unfold Instr.loadAt at hrun
  have hc : ∃ ad, a.tmps.getD c undef = .pointer (some ad) := by
    have hv := h.vals c
    unfold loadPV loadP0 at hl
    simp only [PS.ev] at hl
    split at hl
    · rename_i n g o hs
      rw [hs] at hv
      generalize a.tmps.getD c undef = u at hv
      cases hv
      exact ⟨_, rfl⟩
    · rename_i cs hs
      rw [hs] at hv
      generalize a.tmps.getD c undef = u at hv
      cases hv
      exact ⟨_, rfl⟩
    · cases hl
  obtain ⟨ad, had⟩ := hc
  rw [had] at hrun
  simp only [had]
  simpa [Instr.sureAddr, asAddr] using hrun

theorem resPV_sound (h : Sim N Env.free w0 fr0 S a w fr β) {rv : ResultVar} {x : PV × Bool} (hx : resPV P S rv = some x) :
    ∃ v, (match rv with | .tmp t => (pure (a.tmps.getD t undef) : Sem Value) | .cell c t => do loadVar t (← asAddr (a.tmps.getD c undef))).run P w = .ok v w ∧ PRep w (letGo w0 S β fr) (fun _ => ⟨0, 0, false⟩) (fun _ => 0) v x.1 ∧
      (x.2 = true → OwnOk (fun _ => False) w0 w (letGo w0 S β fr) v x.1 ∧ ∀ b, rowOf v = some b → (∃ t, rv = .tmp t ∧ S.own (.t t 0) = true ∧ vat a w β (.t t 0) = v) ∨
        ∃ t n g len sz ag, rv = .tmp t ∧ S.t t = .bsl n g len sz ag ∧ 0 < S.gen n ∧ 0 < (β n).c ∧ b = (β n).b) := by
  have hfz : ∀ n, 0 < S.gen n → 0 < (β n).c → ∃ f, letGo w0 S β fr (β n).b = some f ∧ (S.box n).length ≤ f := fun n hn hc => ⟨_, letGo_at h hn hc, Nat.le_refl _⟩
  cases rv with
  | tmp t =>
    simp only [resPV] at hx
    have hv := h.vals t
    split at hx
    · rename_i d hs
      cases hx
      rw [hs] at hv
      refine ⟨_, rfl, .d _ _ ((inv_d hv).mono letGo_dext), fun ho => ?_⟩
      obtain ⟨ho, hsl⟩ := Bool.and_eq_true_iff.1 ho
      have hown := h.own _ ho
      have e1 : S.at (.t t 0) = .d d := by
        obtain ⟨xs, ex⟩ := isSl_at hsl
        simp only [PS.at, hs, ex]
        rfl
      rw [e1] at hown
      have e2 : vat a w β (.t t 0) = a.tmps.getD t undef := by
        obtain ⟨xs, e, _⟩ := hown
        cases e
        obtain ⟨A', cap, sz, us, ev, _⟩ := slice_inv (inv_d hv)
        simp only [vat, ev]
        rfl
      rw [e2] at hown
      refine ⟨hown.same fun b hb => ⟨rfl, ?_⟩, fun b hb => .inl ⟨t, rfl, ho, e2⟩⟩
      obtain ⟨⟨f, hf, hf0⟩, _⟩ := hown.rowFr hb
      rw [letGo_row hf hf0, hf]
    · rename_i c hs
      cases hx
      rw [hs] at hv
      exact ⟨_, rfl, ptrFree_rep rfl (hv.mono letGo_dext (GExt.refl β S.gen)), by simp⟩
    · rename_i f hs
      cases hx
      rw [hs] at hv
      exact ⟨_, rfl, ptrFree_rep rfl (hv.mono letGo_dext (GExt.refl β S.gen)), by simp⟩
    · rename_i n g len sz ag hs
      simp only [Option.map_eq_some_iff] at hx
      obtain ⟨xs, hxs, rfl⟩ := hx
      rw [hs] at hv
      have hfc : frzC S (.bsl n g len sz ag) = some (.slice xs, [n]) := by simp [frzC, hxs]
      obtain ⟨hr, hg⟩ := frzC_rep h hfc hv letGo_dext (fun m hm h1 h2 => hfz m h1 h2)
      have hgn := hg n (by simp)
      refine ⟨_, rfl, .d _ _ hr, fun ho => ?_⟩
      obtain ⟨hl0, hbl⟩ : 0 < len ∧ (S.box n).length = len * sz := by simpa using ho
      obtain ⟨A, cap, ev, h0, hs0, hAA⟩ := inv_bsl hv
      have hgg : g = S.gen n := by
        unfold thawed at hxs
        split at hxs
        · rename_i hc; exact hc.1
        · cases hxs
      obtain ⟨hA1, hlc, hcap⟩ := hAA hgg
      obtain ⟨hyl, hyz, hle, _, us, hul, hur, huc⟩ := thawed_sound h hxs hgn hs0 (bsl_k hv hgg)
      have hB := h.boxes n hgn
      have hcp : 0 < (β n).c := by
        rw [← hcap]
        exact Nat.mul_pos (by omega) hs0
      obtain ⟨cs, E, hcc, hcs, _⟩ := hB.ex hcp (bsl_k hv hgg)
      have hm : w0.heap.size ≤ (β n).b := (hB.mine hcp).resolve_right (by simp [Env.free])
      refine ⟨⟨xs, rfl, ?_⟩, fun b hb => ?_⟩
      · rcases Nat.lt_or_ge len cap with hlt | hge
        · refine .inr ⟨(β n).b, cap, cs, E, sz, by rw [ev, hA1 hcp, hyl], by omega, by omega, hs0, hcc, hyz, by rw [hcs, hcap], by rw [letGo_at h hgn hcp, hbl, hyl], .inl hm⟩
        · have : cap = len := by omega
          exact .inl ⟨A, len, by rw [ev, this]⟩
      · rw [ev, hA1 hcp] at hb
        simp only [rowOf] at hb
        split at hb
        · cases hb
          exact .inr ⟨t, n, g, len, sz, ag, rfl, hs, hgn, hcp, rfl⟩
        · cases hb
    · rename_i cs hs
      simp only [Option.map_eq_some_iff] at hx
      obtain ⟨⟨ys, ns⟩, hxs, rfl⟩ := hx
      rw [hs] at hv
      have hfv : frzV S (.pa cs) = some (.agg ys, ns) := by simp [frzV, hxs]
      exact ⟨_, rfl, .d _ _ (frzV_rep h hfv hv letGo_dext (fun m hm h1 h2 => hfz m h1 h2)).1, by simp⟩
    · cases hx
  | cell c t =>
    simp only [resPV, Option.bind_eq_some_iff, Option.map_eq_some_iff] at hx
    obtain ⟨r, hl, ⟨y, ns⟩, hfv, rfl⟩ := hx
    obtain ⟨v, hrun, hr, _⟩ := loadP0_sound (P := P) h hl
    refine ⟨v, ?_, .d _ _ (frzV_rep h hfv hr letGo_dext (fun m hm h1 h2 => hfz m h1 h2)).1, by simp⟩
    exact cell_run h hl hrun

def resF (a : Act) : ResultVar → Sem Value
  | .tmp t => pure (a.tmps.getD t undef)
  | .cell c t => do loadVar t (← asAddr (a.tmps.getD c undef))

theorem resAll_sound (h : Sim N Env.free w0 fr0 S a w fr β) : ∀ (rs : List ResultVar) (l : List (PV × Bool)), resAll P S rs = some l →
    ∃ vs : List Value, (rs.mapM (resF a)).run P w = .ok vs w ∧ vs.length = l.length ∧ ∀ (k : Nat) (v : Value) (x : PV × Bool), vs[k]? = some v → l[k]? = some x →
      PRep w (letGo w0 S β fr) (fun _ => ⟨0, 0, false⟩) (fun _ => 0) v x.1 ∧
      (x.2 = true → OwnOk (fun _ => False) w0 w (letGo w0 S β fr) v x.1 ∧ ∀ b, rowOf v = some b → (∃ t, rs[k]? = some (.tmp t) ∧ S.own (.t t 0) = true ∧ vat a w β (.t t 0) = v) ∨
        ∃ t n g len sz ag, rs[k]? = some (.tmp t) ∧ S.t t = .bsl n g len sz ag ∧ 0 < S.gen n ∧ 0 < (β n).c ∧ b = (β n).b)
  | [], l, hl => by
    simp [resAll] at hl
    subst hl
    exact ⟨[], by simp, rfl, by simp⟩
  | r :: rs, l, hl => by
    simp only [resAll, Option.bind_eq_some_iff, Option.map_eq_some_iff] at hl
    obtain ⟨x, hx, l', hl', rfl⟩ := hl
    obtain ⟨v, hv, hr, ho⟩ := resPV_sound (P := P) h hx
    obtain ⟨vs, hvs, hlen, hall⟩ := resAll_sound h rs l' hl'
    have hv' : (resF a r).run P w = .ok v w := by
      cases r <;> exact hv
    refine ⟨v :: vs, by simp [List.mapM_cons, hv', hvs], by simp [hlen], fun k u y hu hy => ?_⟩
    cases k with
    | zero =>
      cases hu
      cases hy
      refine ⟨hr, fun h2 => ⟨(ho h2).1, fun b hb => ?_⟩⟩
      rcases (ho h2).2 b hb with ⟨t, e, rest⟩ | ⟨t, n, g, len, sz, ag, e, rest⟩
      · exact .inl ⟨t, by rw [e]; rfl, rest⟩
      · exact .inr ⟨t, n, g, len, sz, ag, by rw [e]; rfl, rest⟩
    | succ k =>
      obtain ⟨h1, h2⟩ := hall k u y (by simpa using hu) (by simpa using hy)
      exact ⟨h1, fun h3 => by simpa using h2 h3⟩

theorem resM_sound (h : Sim N tch w0 fr0 S a w fr β) {rv : ResultVar} {x : PV × Bool} (hx : resM P S rv = some x) :
    ∃ v, (resF a rv).run P w = .ok v w ∧ PRep w fr β S.gen v x.1 ∧ (x.2 = true → ∃ t, rv = .tmp t ∧ S.own (.t t 0) = true ∧ vat a w β (.t t 0) = v ∧ S.at (.t t 0) = x.1) := by
  cases rv with
  | tmp t =>
    simp only [resM] at hx
    have hnt : (∀ q, S.t t ≠ .tup q) ∧ x = (S.t t, S.own (.t t 0) && isSl (S.t t)) := by
      split at hx
      · cases hx
      · rename_i hne
        cases hx
        exact ⟨fun q e => hne q e, rfl⟩
    obtain ⟨h1, rfl⟩ := hnt
    refine ⟨_, rfl, h.vals t, fun ho => ⟨t, rfl, (Bool.and_eq_true_iff.1 ho).1, ?_, ?_⟩⟩
    · obtain ⟨ho, hsl⟩ := Bool.and_eq_true_iff.1 ho
      obtain ⟨xs, e, hh⟩ := h.own _ ho
      simp only [vat] at hh ⊢
      have hv := h.vals t
      have hp : (S.t t).part 0 = S.t t := by
        obtain ⟨ys, ey⟩ := isSl_at hsl
        rw [ey]
        rfl
      simp only [PS.at] at e
      rw [hp] at e
      rw [e] at hv
      obtain ⟨A', cap, sz, us, ev, _⟩ := slice_inv (inv_d hv)
      rw [ev]
      rfl
    · obtain ⟨ys, ey⟩ := isSl_at (Bool.and_eq_true_iff.1 ho).2
      simp only [PS.at, ey]
      rfl
  | cell c t =>
    simp only [resM] at hx
    split at hx
    · cases hx
    · rename_i p hne hl
      cases hx
      obtain ⟨v, hrun, hr, _⟩ := loadP0_sound (P := P) h hl
      exact ⟨v, cell_run h hl hrun, hr, by simp⟩
    · cases hx

theorem resAllM_sound (h : Sim N tch w0 fr0 S a w fr β) : ∀ (rs : List ResultVar) (l : List (PV × Bool)), resAllM P S rs = some l →
    ∃ vs : List Value, (rs.mapM (resF a)).run P w = .ok vs w ∧ vs.length = l.length ∧ ∀ (k : Nat) (v : Value) (x : PV × Bool), vs[k]? = some v → l[k]? = some x →
      PRep w fr β S.gen v x.1 ∧ (x.2 = true → ∃ t, rs[k]? = some (.tmp t) ∧ S.own (.t t 0) = true ∧ vat a w β (.t t 0) = v ∧ S.at (.t t 0) = x.1)
  | [], l, hl => by
    simp [resAllM] at hl
    subst hl
    exact ⟨[], by simp, rfl, by simp⟩
  | r :: rs, l, hl => by
    simp only [resAllM, Option.bind_eq_some_iff, Option.map_eq_some_iff] at hl
    obtain ⟨x, hx, l', hl', rfl⟩ := hl
    obtain ⟨v, hv, hr, ho⟩ := resM_sound (P := P) h hx
    obtain ⟨vs, hvs, hlen, hall⟩ := resAllM_sound h rs l' hl'
    refine ⟨v :: vs, by simp [List.mapM_cons, hv, hvs], by simp [hlen], fun k u y hu hy => ?_⟩
    cases k with
    | zero =>
      cases hu
      cases hy
      refine ⟨hr, fun h2 => ?_⟩
      obtain ⟨t, e, rest⟩ := ho h2
      exact ⟨t, by rw [e]; rfl, rest⟩
    | succ k =>
      obtain ⟨h1, h2⟩ := hall k u y (by simpa using hu) (by simpa using hy)
      exact ⟨h1, fun h3 => by simpa using h2 h3⟩

def packV : List Value → Value
  | [v] => v
  | vs => .tuple vs.toArray

theorem results_run {fn : Func} {vs : List Value} (hvs : (fn.results.toList.mapM (resF a)).run P w = .ok vs w) :
    (results fn a.tmps).run P w = .ok (packV vs) w := by
  have hm : (fn.results.mapM (resF a)).run P w = .ok vs.toArray w := by
    rw [Array.mapM_eq_mapM_toList]
    simp [hvs]
  have hr : results fn a.tmps = (do
      let vs ← fn.results.mapM (resF a)
      pure (if h : vs.size = 1 then vs[0] else .tuple vs) : Sem Value) := rfl
  rw [hr, Sem.run_bind, hm]
  simp only [Result.andThen_ok, Sem.run_pure]
  cases vs with
  | nil => rfl
  | cons v vs =>
    cases vs with
    | nil => rfl
    | cons u vs => simp [packV]

theorem tmps_at : ∀ (rs : List ResultVar), (tmpsOf rs).Nodup → ∀ (j j' t : Nat), rs[j]? = some (ResultVar.tmp t) → rs[j']? = some (ResultVar.tmp t) → j = j'
  | [], _, j, j', t, h, _ => by simp at h
  | r :: rs, hn, j, j', t, h, h' => by
    have hmem : ∀ (rs : List ResultVar) (k t : Nat), rs[k]? = some (ResultVar.tmp t) → t ∈ tmpsOf rs := by
      intro rs
      induction rs with
      | nil => intro k t h; simp at h
      | cons r rs ih =>
        intro k t h
        cases k with
        | zero => simp at h; subst h; simp [tmpsOf]
        | succ k =>
          have := ih k t (by simpa using h)
          cases r <;> simp [tmpsOf, this]
    have hn' : (tmpsOf rs).Nodup := by
      cases r with
      | tmp t => simp [tmpsOf] at hn; exact hn.2
      | cell _ _ => exact hn
    cases j with
    | zero =>
      cases j' with
      | zero => rfl
      | succ j' =>
        simp at h
        subst h
        have := hmem rs j' t (by simpa using h')
        simp [tmpsOf] at hn
        exact absurd this hn.1
    | succ j =>
      cases j' with
      | zero =>
        simp at h'
        subst h'
        have := hmem rs j t (by simpa using h)
        simp [tmpsOf] at hn
        exact absurd this hn.1
      | succ j' =>
        rw [tmps_at rs hn' j j' t (by simpa using h) (by simpa using h')]


theorem resPV_free {rv : ResultVar} {x : PV × Bool} (hx : resPV P S rv = some x) : (match x.1 with | .d _ => true | .cptr _ => true | .fn _ [] => true | _ => false) = true := by
  cases rv with
  | tmp t =>
    simp only [resPV] at hx
    split at hx <;> first | (cases hx; rfl) | (simp only [Option.map_eq_some_iff] at hx; obtain ⟨_, _, rfl⟩ := hx; rfl) | (cases hx)
  | cell c t =>
    simp only [resPV, Option.bind_eq_some_iff, Option.map_eq_some_iff] at hx
    obtain ⟨_, _, _, _, rfl⟩ := hx
    rfl

/-- The values together. -/
theorem pack_rep {fr : Nat → Option Nat} {gen : Nat → Nat} {vs : List Value} {l : List (PV × Bool)} (hlen : vs.length = l.length)
    (hall : ∀ (k : Nat) (v : Value) (x : PV × Bool), vs[k]? = some v → l[k]? = some x → PRep w fr β gen v x.1) : PRep w fr β gen (packV vs) (pack l) := by
  cases vs with
  | nil =>
    have : l = [] := List.eq_nil_of_length_eq_zero hlen.symm
    subst this
    exact .tup [] [] rfl (by simp)
  | cons v1 vs1 =>
    cases l with
    | nil => simp at hlen
    | cons x1 l1 =>
      cases vs1 with
      | nil =>
        have : l1 = [] := List.eq_nil_of_length_eq_zero (by simpa using hlen.symm)
        subst this
        exact hall 0 v1 x1 rfl rfl
      | cons v2 vs2 =>
        cases l1 with
        | nil => simp at hlen
        | cons x2 l2 =>
          refine .tup (v1 :: v2 :: vs2) _ (by simpa using hlen) fun k v p hv hp => ?_
          rw [List.getElem?_map] at hp
          cases hx : (x1 :: x2 :: l2)[k]? with
          | none => rw [hx] at hp; cases hp
          | some x =>
            rw [hx] at hp
            cases hp
            exact hall k v x hv hx

/-- A part that is one's own. -/
theorem pack_part {T : Nat → Prop} {w1 : World} {fr : Nat → Option Nat} {vs : List Value} {l : List (PV × Bool)} (hlen : vs.length = l.length) {j : Nat} (h2 : (l.getD j (.any, false)).2 = true)
    (hall : ∀ (v : Value) (x : PV × Bool), vs[j]? = some v → l[j]? = some x → x.2 = true → OwnOk T w1 w fr v x.1) :
    ∃ x v, l[j]? = some x ∧ vs[j]? = some v ∧ x.2 = true ∧ vpart (packV vs) j = v ∧ (pack l).part j = x.1 := by
  rw [List.getD_eq_getElem?_getD] at h2
  cases hx : l[j]? with
  | none => rw [hx] at h2; cases h2
  | some x =>
    rw [hx] at h2
    have hjl : j < vs.length := by
      rw [hlen]
      exact (List.getElem?_eq_some_iff.1 hx).1
    have hown := hall _ x (List.getElem?_eq_getElem hjl) hx h2
    obtain ⟨xs, e, hh⟩ := hown
    have hnt : ∃ A n c, vs[j] = .slice A n c := by
      rcases hh with ⟨A, n, e'⟩ | ⟨b, c, cur, E, sz, e', _⟩
      · exact ⟨A, n, n, e'⟩
      · exact ⟨_, _, _, e'⟩
    obtain ⟨A, n, c, ev⟩ := hnt
    refine ⟨x, vs[j], rfl, List.getElem?_eq_getElem hjl, h2, ?_, ?_⟩
    · cases vs with
      | nil => simp at hjl
      | cons v1 vs1 =>
        cases vs1 with
        | nil =>
          have : j = 0 := by simp at hjl; exact hjl
          subst this
          simp only [List.getElem_cons_zero] at ev ⊢
          simp only [packV]
          rw [ev]
          rfl
        | cons v2 vs2 =>
          simp only [vpart, packV]
          rw [Array.getD_eq_getD_getElem?, List.getElem?_toArray, List.getElem?_eq_getElem hjl]
          rfl
    · cases l with
      | nil => simp at hx
      | cons x1 l1 =>
        cases l1 with
        | nil =>
          have : j = 0 := by
            have := (List.getElem?_eq_some_iff.1 hx).1
            simpa using this
          subst this
          simp at hx
          subst hx
          simp only [pack]
          rw [e]
          rfl
        | cons x2 l2 =>
          simp only [pack, PV.part]
          rw [List.getD_eq_getElem?_getD, List.getElem?_map, hx]
          rfl

theorem srcs_at : ∀ (rs : List ResultVar) (_ : (srcsOf S rs).Nodup) (j j' t t' n : Nat), rs[j]? = some (ResultVar.tmp t) → rs[j']? = some (ResultVar.tmp t') → (∃ g len sz ag, S.t t = .bsl n g len sz ag) → (∃ g len sz ag, S.t t' = .bsl n g len sz ag) → j = j'
  | [], _, j, j', t, t', n, h, _, _, _ => by simp at h
  | r :: rs, hn, j, j', t, t', n, h, h', hs, hs' => by
    have hmem : ∀ (rs : List ResultVar) (k t : Nat), rs[k]? = some (ResultVar.tmp t) → (∃ g len sz ag, S.t t = .bsl n g len sz ag) → n ∈ srcsOf S rs := by
      intro rs
      induction rs with
      | nil => intro k t h; simp at h
      | cons r rs ih =>
        intro k t h hs
        cases k with
        | zero =>
          simp at h
          subst h
          obtain ⟨g, len, sz, ag, e⟩ := hs
          simp [srcsOf, e]
        | succ k =>
          have := ih k t (by simpa using h) hs
          cases r with
          | tmp t2 =>
            simp only [srcsOf]
            split <;> simp [this]
          | cell _ _ => exact this
    have hn' : (srcsOf S rs).Nodup := by
      cases r with
      | tmp t2 =>
        simp only [srcsOf] at hn
        split at hn
        · exact (List.nodup_cons.1 hn).2
        · exact hn
      | cell _ _ => exact hn
    cases j with
    | zero =>
      cases j' with
      | zero => rfl
      | succ j' =>
        simp at h
        subst h
        have := hmem rs j' t' (by simpa using h') hs'
        obtain ⟨g, len, sz, ag, e⟩ := hs
        simp only [srcsOf, e] at hn
        exact absurd this (List.nodup_cons.1 hn).1
    | succ j =>
      cases j' with
      | zero =>
        simp at h'
        subst h'
        have := hmem rs j t (by simpa using h) hs
        obtain ⟨g, len, sz, ag, e⟩ := hs'
        simp only [srcsOf, e] at hn
        exact absurd this (List.nodup_cons.1 hn).1
      | succ j' =>
        rw [srcs_at rs hn' j j' t t' n (by simpa using h) (by simpa using h') hs hs']

theorem getD_pad {vs : Array Value} {n : Nat} (i : Nat) : ((vs ++ Array.replicate n undef)[i]?).getD undef = (vs[i]?).getD undef := by
  by_cases hi : i < vs.size
  · rw [Array.getElem?_append_left hi]
  · rw [Array.getElem?_append_right (by omega), Array.getElem?_replicate, Array.getElem?_eq_none (by omega : vs.size ≤ i)]
    split <;> rfl

/-- A function, by the weakest precondition of its body. -/
theorem Holds.of (hm : P.follows .mixedOrders = true) {f : FuncId} {fn : Func} {c : Code} (hf : P.funcs[f]? = some fn) (hname : (fn.name == "runtime.NumGoroutine") = false) (hb : fn.body = some c) (tr : List Nat) {args : List PV}
    (hargs : args.length ≤ fn.ntmps) (hok : codeOk fn.ntmps tr c = true) (hres : resOk fn.results.toList = true) {r : PV} {ro : Nat → Bool} (hfree : ptrFree r = true)
    (h : pwp P fn.ntmps tr c (retQ P fn.results.toList r ro) (PS.start args)) : Holds P f args r ro := by
  refine ⟨⟨fn, c, hf, hname, hb⟩, hfree, fun vs w fr hvs hfrb hgo hrep => ?_⟩
  refine calls_of_wp hf hb ?_
  have hS : Sim fn.ntmps Env.free w fr (PS.start args) ⟨vs ++ Array.replicate (fn.ntmps - vs.size) undef, []⟩ w fr (fun _ => ⟨0, 0, false⟩) := by
    refine ⟨rfl, by simp; omega, rfl, rfl, rfl, Nat.le_refl _, hfrb, fun _ _ _ => ⟨rfl, rfl⟩, fun _ h => h.elim, fun i => ?_, fun n hn => by simp [PS.start] at hn, fun n m hn => by simp [PS.start] at hn, fun l hl => by simp [PS.start] at hl, fun n k hl => by simp [PS.start] at hl, fun l l' hl => by simp [PS.start] at hl, GExt.refl _ _⟩
    simp only [PS.start, Array.getD_eq_getD_getElem?, List.getD_eq_getElem?_getD, getD_pad]
    by_cases hi : i < vs.size
    · rw [Array.getElem?_eq_getElem hi, List.getElem?_eq_getElem (by omega)]
      exact hrep i _ _ (Array.getElem?_eq_getElem hi) (List.getElem?_eq_getElem (by omega))
    · rw [Array.getElem?_eq_none (by omega), List.getElem?_eq_none (by omega)]
      exact opq_undef
  refine wp_mono (pwp_sound (tch := Env.free) (w0 := w) (fr0 := fr) ⟨hgo, fun _ _ _ h => h⟩ hm c hok _ _ h _ w fr _ hS) fun e a' w' hq => ?_
  obtain ⟨S', fr', β', hq, hS'⟩ := hq
  have key : (∃ l, resAll P S' fn.results.toList = some l ∧ r = pack l ∧ (srcsOf S' fn.results.toList).Nodup ∧ ∀ j, ro j = true → (l.getD j (.any, false)).2 = true) →
      a'.defers = [] ∧ ∃ v, (results fn a'.tmps).run P w' = .ok v w' ∧ ∃ v' fr' S' β', Ending.returned v = .returned v' ∧ Sim 1 Env.free w fr S' (res v') w' fr' β' ∧ S'.t 0 = r ∧ ∀ j, ro j = true → S'.own (.t 0 j) = true := by
    rintro ⟨l, hl, hr, hsn, hro⟩
    refine ⟨hS'.defers, ?_⟩
    obtain ⟨vs', hvs', hlen, hall⟩ := resAll_sound (P := P) hS' _ l hl
    refine ⟨_, results_run hvs', _, letGo w S' β' fr', ⟨fun i => if i = 0 then r else .undef, fun _ => [], fun _ => 0, fun l => match l with | .t 0 j => ro j | _ => false, FO⟩, fun _ => ⟨0, 0, false⟩, rfl, ?_, rfl, fun j hj => hj⟩
    have hV0 : PRep w' (letGo w S' β' fr') (fun _ => ⟨0, 0, false⟩) (fun _ => 0) (packV vs') r := by
      rw [hr]
      exact pack_rep hlen fun k v x hv hx => (hall k v x hv hx).1
    obtain ⟨V, hV⟩ : ∃ V, V = packV vs' := ⟨_, rfl⟩
    rw [← hV] at hV0 ⊢
    have hpart : ∀ j, ro j = true → ∃ x v, l[j]? = some x ∧ vs'[j]? = some v ∧ x.2 = true ∧ vpart V j = v ∧ r.part j = x.1 := by
      intro j hj
      rw [hV, hr]
      exact pack_part hlen (hro j hj) fun v x hv hx h2 => ((hall j v x hv hx).2 h2).1
    have hvl : ∀ i j, vat (res V) w' (fun _ => ⟨0, 0, false⟩) (.t i j) = if i = 0 then vpart V j else vpart undef j := by
      intro i j
      simp only [vat, res, Array.getD_eq_getD_getElem?]
      by_cases hi : i = 0
      · subst hi; rfl
      · rw [if_neg hi]
        have : (#[V] : Array Value)[i]? = none := by simp; omega
        rw [this]
        rfl
    refine ⟨rfl, rfl, hS'.os, hS'.tape, hS'.output, hS'.size, fun b f hf => ?_, fun b hb _ => ?_, fun _ h => h.elim, fun i => ?_, fun n hn => by simp at hn, fun n m hn => by simp at hn, fun lo hlo => ?_, fun n k hlo => by simp at hlo, fun lo lo' hlo hlo' hne b hb => ?_, GExt.refl _ _⟩
    · unfold letGo at hf
      split at hf
      · exact hS'.frb b f hf
      · split at hf
        · rename_i h0
          exact hS'.frb b _ h0
        · exact hS'.frb b f hf
    · have := hS'.frame b hb (by simp [Env.free])
      refine ⟨this.1, ?_⟩
      unfold letGo
      rw [if_pos hb]
      exact this.2
    · simp only [res, Array.getD_eq_getD_getElem?]
      by_cases hi : i = 0
      · subst hi
        rw [if_pos rfl]
        exact hV0
      · rw [if_neg hi]
        have : (#[V] : Array Value)[i]? = none := by simp; omega
        rw [this]
        exact opq_undef
    · cases lo with
      | b n k => simp at hlo
      | t i j =>
        cases i with
        | succ i => simp at hlo
        | zero =>
          simp only at hlo
          obtain ⟨x, v, hx, hv, h2, e1, e2⟩ := hpart j hlo
          rw [hvl, if_pos rfl, e1]
          have : PS.at ⟨fun i => if i = 0 then r else .undef, fun _ => [], fun _ => 0, fun l => match l with | .t 0 j => ro j | _ => false, FO⟩ (.t 0 j) = r.part j := by simp [PS.at]
          rw [this, e2]
          exact ((hall j v x hv hx).2 h2).1
    · cases lo with
      | b n k => simp at hlo
      | t i j =>
        cases lo' with
        | b n k => simp at hlo'
        | t i' j' =>
          cases i with
          | succ i => simp at hlo
          | zero =>
            cases i' with
            | succ i' => simp at hlo'
            | zero =>
              simp only at hlo hlo'
              obtain ⟨x, v, hx, hv, h2, e1, e2⟩ := hpart j hlo
              obtain ⟨x', v', hx', hv', h2', e1', e2'⟩ := hpart j' hlo'
              rw [hvl, if_pos rfl, e1] at hb
              rw [hvl, if_pos rfl, e1']
              intro hb'
              have hrow0 : ∀ t, S'.own (.t t 0) = true → rowOf (vat a' w' β' (.t t 0)) = some b → ∀ n, 0 < S'.gen n → 0 < (β' n).c → b ≠ (β' n).b := by
                intro t ho hrb n hn hc e
                obtain ⟨⟨f, hf, hf0⟩, _⟩ := (hS'.own _ ho).rowFr hrb
                rw [e, (hS'.boxes n hn).reg hc] at hf
                cases hf
                omega
              rcases ((hall j v x hv hx).2 h2).2 b hb with ⟨t, ht, ho, ev⟩ | ⟨t, n, g, len, sz, ag, ht, hs, hgn, hcn, eb⟩
              · rcases ((hall j' v' x' hv' hx').2 h2').2 b hb' with ⟨t', ht', ho', ev'⟩ | ⟨t', n', g', len', sz', ag', ht', hs', hgn', hcn', eb'⟩
                · by_cases htt : t = t'
                  · subst htt
                    have hnd : (tmpsOf fn.results.toList).Nodup := by simpa [resOk] using hres
                    have := tmps_at _ hnd j j' t ht ht'
                    subst this
                    exact hne rfl
                  · refine hS'.oinj (.t t 0) (.t t' 0) ho ho' (fun e => htt (by cases e; rfl)) b (by rw [ev]; exact hb) (by rw [ev']; exact hb')
                · exact hrow0 t ho (by rw [ev]; exact hb) n' hgn' hcn' eb'
              · rcases ((hall j' v' x' hv' hx').2 h2').2 b hb' with ⟨t', ht', ho', ev'⟩ | ⟨t', n', g', len', sz', ag', ht', hs', hgn', hcn', eb'⟩
                · exact hrow0 t' ho' (by rw [ev']; exact hb') n hgn hcn eb
                · have hnn : n = n' := hS'.binj n n' hgn hgn' hcn hcn' (by rw [← eb, eb'])
                  subst hnn
                  have := srcs_at _ hsn j j' t t' n ht ht' ⟨_, _, _, _, hs⟩ ⟨_, _, _, _, hs'⟩
                  subst this
                  exact hne rfl
  cases e with
  | normal => exact key hq
  | ret => exact key hq
  | _ => exact hq.elim

/-- A function that is handed boxes, by the weakest precondition of its body. -/
theorem Meets.of (hm : P.follows .mixedOrders = true) {f : FuncId} {fn : Func} {c : Code} (hf : P.funcs[f]? = some fn) (hname : (fn.name == "runtime.NumGoroutine") = false) (hb : fn.body = some c) (tr : List Nat) {fo : Nat} {gl : Nat → Nat} {args : List PV} {pre post : List Upd}
    (hargs : args.length ≤ fn.ntmps) (hok : codeOk fn.ntmps tr c = true) (hres : resOk fn.results.toList = true) {r : PV} {ro : Nat → Bool}
    (hnr : namesIn (post.map (·.n)) r = true) (hpn : ∀ u ∈ post, namesL (post.map (·.n)) u.c = true ∧ 0 < u.g) (hpre : ∀ u ∈ pre, u.n ∈ post.map (·.n))
    (h : pwp P fn.ntmps tr c (retM P fn.results.toList r ro post) (PS.startB fo gl args pre)) : Meets P fo gl f args pre r ro post := by
  refine ⟨⟨fn, c, hf, hname, hb⟩, hnr, hpn, hpre, fun vs w fr T β hvs hgo h0 => ?_⟩
  refine calls_of_wp hf hb ?_
  have hpad : ∀ i, (vs ++ Array.replicate (fn.ntmps - vs.size) undef).getD i undef = vs.getD i undef := by
    intro i
    simp only [Array.getD_eq_getD_getElem?, getD_pad]
  have hvt : ∀ l, vat ⟨vs ++ Array.replicate (fn.ntmps - vs.size) undef, []⟩ w β l = vat ⟨vs, []⟩ w β l := by
    intro l
    cases l with
    | t i j => simp only [vat, hpad]
    | b n k => rfl
  have hS : Sim fn.ntmps T w fr (PS.startB fo gl args pre) ⟨vs ++ Array.replicate (fn.ntmps - vs.size) undef, []⟩ w fr β := by
    refine ⟨rfl, by simp; omega, rfl, rfl, rfl, Nat.le_refl _, h0.frb, h0.frame, h0.keep, fun i => ?_, h0.boxes, h0.binj, fun l hl => ?_, h0.live, fun l l' hl hl' hne b hbr => ?_, h0.ext⟩
    · rw [hpad]
      exact h0.vals i
    · rw [hvt]
      exact h0.own l hl
    · rw [hvt] at hbr
      rw [hvt]
      exact h0.oinj l l' hl hl' hne b hbr
  refine wp_mono (pwp_sound (tch := T) (w0 := w) (fr0 := fr) hgo hm c hok _ _ h _ w fr _ hS) fun e a' w' hq => ?_
  obtain ⟨S', fr', β', hq, hS'⟩ := hq
  have key : ((∃ l, resAllM P S' fn.results.toList = some l ∧ r = pack l ∧ ∀ j, ro j = true → (l.getD j (.any, false)).2 = true) ∧ ∀ u ∈ post, S'.gen u.n = u.g ∧ S'.box u.n = u.c ∧ ∀ k, u.o k = true → S'.own (.b u.n k) = true) →
      a'.defers = [] ∧ ∃ v, (results fn a'.tmps).run P w' = .ok v w' ∧ ∃ v' fr' S' β', Ending.returned v = .returned v' ∧ Sim 1 T w fr S' (res v') w' fr' β' ∧ S'.t 0 = r ∧ (∀ j, ro j = true → S'.own (.t 0 j) = true) ∧
        ∀ u ∈ post, S'.gen u.n = u.g ∧ S'.box u.n = u.c ∧ ∀ k, u.o k = true → S'.own (.b u.n k) = true := by
    rintro ⟨⟨l, hl, hr, hro⟩, hpost⟩
    refine ⟨hS'.defers, ?_⟩
    obtain ⟨vs', hvs', hlen, hall⟩ := resAllM_sound (P := P) hS' _ l hl
    refine ⟨_, results_run hvs', _, fr', ⟨fun i => if i = 0 then r else .undef, S'.box, S'.gen, fun l => match l with | .t 0 j => ro j | .t _ _ => false | .b n k => S'.own (.b n k), S'.fo⟩, β', rfl, ?_, rfl, fun j hj => hj, hpost⟩
    have hV0 : PRep w' fr' β' S'.gen (packV vs') r := by
      rw [hr]
      exact pack_rep hlen fun k v x hv hx => (hall k v x hv hx).1
    obtain ⟨V, hV⟩ : ∃ V, V = packV vs' := ⟨_, rfl⟩
    rw [← hV] at hV0 ⊢
    have hpart : ∀ j, ro j = true → ∃ x t, l[j]? = some x ∧ fn.results.toList[j]? = some (.tmp t) ∧ S'.own (.t t 0) = true ∧ vpart V j = vat a' w' β' (.t t 0) ∧ r.part j = S'.at (.t t 0) := by
      intro j hj
      obtain ⟨x, v, hx, hv, h2, e1, e2⟩ := pack_part (T := T.tch) (w1 := w) (w := w') (fr := fr') hlen (hro j hj) fun v x hv hx h2 => by
        obtain ⟨t, ht, ho, ev, ex⟩ := (hall j v x hv hx).2 h2
        rw [← ev, ← ex]
        exact hS'.own _ ho
      obtain ⟨t, ht, ho, ev, ex⟩ := (hall j v x hv hx).2 h2
      exact ⟨x, t, hx, ht, ho, by rw [hV, e1, ev], by rw [hr, e2, ex]⟩
    have hvl : ∀ i j, vat (res V) w' β' (.t i j) = if i = 0 then vpart V j else vpart undef j := by
      intro i j
      simp only [vat, res, Array.getD_eq_getD_getElem?]
      by_cases hi : i = 0
      · subst hi; rfl
      · rw [if_neg hi]
        have : (#[V] : Array Value)[i]? = none := by simp; omega
        rw [this]
        rfl
    have hcase : ∀ lo, (match lo with | Loc.t 0 j => ro j | .t _ _ => false | .b n k => S'.own (.b n k)) = true →
        ∃ l', S'.own l' = true ∧ vat (res V) w' β' lo = vat a' w' β' l' ∧ (PS.at ⟨fun i => if i = 0 then r else .undef, S'.box, S'.gen, fun l => match l with | .t 0 j => ro j | .t _ _ => false | .b n k => S'.own (.b n k), S'.fo⟩ lo) = S'.at l' ∧
          ((∃ n k, lo = .b n k ∧ l' = .b n k) ∨ ∃ j t, lo = .t 0 j ∧ l' = .t t 0 ∧ fn.results.toList[j]? = some (.tmp t)) := by
      intro lo hlo
      cases lo with
      | b n k => exact ⟨.b n k, hlo, rfl, rfl, .inl ⟨n, k, rfl, rfl⟩⟩
      | t i j =>
        cases i with
        | succ i => simp at hlo
        | zero =>
          simp only at hlo
          obtain ⟨x, t, hx, ht, ho, e1, e2⟩ := hpart j hlo
          exact ⟨.t t 0, ho, by rw [hvl, if_pos rfl, e1], by rw [← e2]; simp [PS.at], .inr ⟨j, t, rfl, rfl, ht⟩⟩
    refine ⟨rfl, rfl, hS'.os, hS'.tape, hS'.output, hS'.size, hS'.frb, hS'.frame, hS'.keep, fun i => ?_, hS'.boxes, hS'.binj, fun lo hlo => ?_, fun n k hlo => hS'.live n k hlo, fun lo lo' hlo hlo' hne b hbr => ?_, hS'.ext⟩
    · simp only [res, Array.getD_eq_getD_getElem?]
      by_cases hi : i = 0
      · subst hi
        rw [if_pos rfl]
        exact hV0
      · rw [if_neg hi]
        have : (#[V] : Array Value)[i]? = none := by simp; omega
        rw [this]
        exact opq_undef
    · obtain ⟨l', ho, e1, e2, _⟩ := hcase lo hlo
      rw [e1, e2]
      exact hS'.own l' ho
    · obtain ⟨l1, ho, e1, e2, hc1⟩ := hcase lo hlo
      obtain ⟨l2, ho', e1', e2', hc2⟩ := hcase lo' hlo'
      rw [e1] at hbr
      rw [e1']
      refine hS'.oinj l1 l2 ho ho' (fun e => ?_) b hbr
      subst e
      rcases hc1 with ⟨n, k, rfl, rfl⟩ | ⟨j, t, rfl, rfl, ht⟩
      · rcases hc2 with ⟨n', k', rfl, e⟩ | ⟨j', t', rfl, e, ht'⟩
        · cases e; exact hne rfl
        · cases e
      · rcases hc2 with ⟨n', k', rfl, e⟩ | ⟨j', t', rfl, e, ht'⟩
        · cases e
        · cases e
          have hnd : (tmpsOf fn.results.toList).Nodup := by simpa [resOk] using hres
          have := tmps_at _ hnd j j' t ht ht'
          subst this
          exact hne rfl
  cases e with
  | normal => exact key hq
  | ret => exact key hq
  | _ => exact hq.elim
end

end BoEng

/- Codes in short, and the rules by which a state is reckoned. -/
namespace BoEng
set_option linter.unusedSimpArgs false
set_option linter.unusedVariables false
open Go Go.RowKit

/-- An operation in short: its guard (the slot that tells), its slot, what it is. -/
structure CO where
  g : Option (Nat × Bool)
  d : Option Nat
  op : Op

inductive CC where
  | skip
  | reg (l : List CO)
  | seq (a b : CC)
  | cond (c : Operand) (a b : CC)
  | block (id : Nat) (c : CC)
  | loop (c : CC)
  | exit (id : Nat)
  | ret
  | bad

def cgd (l : List Oper) : Option (Nat × Bool) → Option (Nat × Bool)
  | none => none
  | some (j, w) => match l[j]? with | some x => (match x.dst with | some d => some (d, w) | none => some (0, w)) | none => some (0, w)
def cop (l : List Oper) (o : Oper) : CO := ⟨cgd l o.guard, o.dst, o.op⟩
def gdsOk (ops : Array Oper) : Bool := ops.toList.all fun o => match o.guard with | none => true | some (j, _) => ((ops[j]?).bind (·.dst)).isSome
def ccs : Code → CC
  | .skip => .skip
  | .region _ ops _ => .reg (ops.toList.map (cop ops.toList))
  | .seq a b => .seq (ccs a) (ccs b)
  | .cond c a b => .cond c (ccs a) (ccs b)
  | .block id c => .block id (ccs c)
  | .loop c => .loop (ccs c)
  | .scope c => ccs c
  | .exit id => .exit id
  | .label _ => .skip
  | .ret => .ret
  | _ => .bad
def codeOk2 (N : Nat) (tr : List Nat) : Code → Bool
  | .region _ ops draw => dstsOk N ops && (!draw || regOk tr ops) && gdsOk ops
  | .seq a b => codeOk2 N tr a && codeOk2 N tr b
  | .cond _ a b => codeOk2 N tr a && codeOk2 N tr b
  | .block _ c => codeOk2 N tr c
  | .loop c => codeOk2 N tr c
  | .scope c => codeOk2 N tr c
  | .skip => true
  | .exit _ => true
  | .label _ => true
  | .ret => true
  | _ => false
theorem codeOk2_ok {N : Nat} {tr : List Nat} : ∀ (c : Code), codeOk2 N tr c = true → codeOk N tr c = true := by
  intro c
  induction c with
  | region id ops draw => intro h; simp only [codeOk2, Bool.and_eq_true] at h; simp only [codeOk, Bool.and_eq_true]; exact h.1
  | seq a b iha ihb => intro h; simp only [codeOk2, Bool.and_eq_true] at h; simp only [codeOk, Bool.and_eq_true]; exact ⟨iha h.1, ihb h.2⟩
  | cond c a b iha ihb => intro h; simp only [codeOk2, Bool.and_eq_true] at h; simp only [codeOk, Bool.and_eq_true]; exact ⟨iha h.1, ihb h.2⟩
  | block id c ih => intro h; exact ih h
  | loop c ih => intro h; exact ih h
  | scope c ih => intro h; exact ih h
  | _ => intro h; first | rfl | cases h

/-- The datum in a slot. -/
def PS.set (S : PS) (d : Nat) (v : PV) : PS := { S with t := upd S.t d v, own := fun l => match l with | .t i j => if i = d then false else S.own (.t i j) | l => S.own l }
def PS.setO (S : PS) (d : Option Nat) (v : PV) : PS := match d with | some d => S.set d v | none => S
def gdv (p : PV) (w : Bool) : Bool := match p with | .d (.bool b) => b == w | _ => false

/-- One operation, its slot being known to be one. -/
def ow (P : Program) (tr : List Nat) (d : Option Nat) (op : Op) (S : PS) (K : PS → Prop) : Prop :=
  owp P (d.getD 0 + 1) tr { dst := d, op := op, type := 0, pos := "", after := #[], guard := none } S K
def rwc (P : Program) (tr : List Nat) : List CO → (PS → Prop) → PS → Prop
  | [], Q, S => Q S
  | c :: l, Q, S =>
    match c.g with
    | none => ow P tr c.d c.op S (rwc P tr l Q)
    | some (j, w) => if gdv (S.t j) w = true then ow P tr c.d c.op S (rwc P tr l Q) else rwc P tr l Q (S.setO c.d .undef)
def seqQ (P : Program) (k : PS → Prop) (Q : Exit → PS → Prop) (e : Exit) (S : PS) : Prop := match e with | .normal => k S | e => Q e S
def blkQ (id : Nat) (Q : Exit → PS → Prop) (e : Exit) (S : PS) : Prop := match e with | .exit id' => if id' = id then Q .normal S else Q (.exit id') S | e => Q e S
def pwc (P : Program) (tr : List Nat) : CC → (Exit → PS → Prop) → PS → Prop
  | .skip, Q, S => Q .normal S
  | .reg l, Q, S => rwc P tr l (Q .normal) S
  | .seq a b, Q, S => pwc P tr a (seqQ P (pwc P tr b Q) Q) S
  | .cond c a b, Q, S => match S.ev c with | .d (.bool t) => if t = true then pwc P tr a Q S else pwc P tr b Q S | _ => False
  | .block id c, Q, S => pwc P tr c (blkQ id Q) S
  | .loop c, Q, S => ∃ (I : PS → Prop) (μ : PS → Nat), I S ∧ ∀ S1, I S1 → pwc P tr c (seqQ P (fun S' => I S' ∧ μ S' < μ S1) Q) S1
  | .exit id, Q, S => Q (.exit id) S
  | .ret, Q, S => Q .ret S
  | .bad, _, _ => False

section
variable {P : Program} {N : Nat} {tr : List Nat}

theorem effF0_N {N' : Nat} {S : PS} {o o' : Oper} (hd : o'.dst = o.dst) (ho : o'.op = o.op) (h : dstOk N o = true) (h' : dstOk N' o' = true) : effF0 P N' tr S o' = effF0 P N tr S o := by
  obtain ⟨d, op, ty, pos, af, g⟩ := o
  obtain ⟨d', op', ty', pos', af', g'⟩ := o'
  simp only at hd ho
  subst hd ho
  unfold effF0
  rw [if_pos h, if_pos h']
  rfl

theorem effF_N {N' : Nat} {S : PS} {o o' : Oper} (hd : o'.dst = o.dst) (ho : o'.op = o.op) (h : dstOk N o = true) (h' : dstOk N' o' = true) : effF P N' tr S o' = effF P N tr S o := by
  have e : csOk tr S o' = csOk tr S o := by
    unfold csOk isCs isCm isCl isTr isFz
    rw [hd, ho]
  have e2 : fpCk tr S o' = fpCk tr S o := by
    unfold fpCk fpOf isTr isFz
    rw [hd, ho]
  unfold effF
  rw [e, e2, effF0_N hd ho h h']

theorem owp_of {N' : Nat} {S : PS} {K : PS → Prop} {o o' : Oper} (hd : o'.dst = o.dst) (ho : o'.op = o.op) (h : dstOk N o = true) (h' : dstOk N' o' = true) (hw : owp P N' tr o' S K) : owp P N tr o S K := by
  unfold owp at hw ⊢
  rw [ho] at hw
  split at hw
  · refine ⟨h, ?_⟩
    have h2 := hw.2
    have hcb : isCb tr o' = isCb tr o := by unfold isCb; rw [hd]
    have hou : isOut tr o' = isOut tr o := by unfold isOut; rw [hd]
    rw [hcb, hou, hd] at h2
    split at h2
    · split at h2
      · rename_i hc
        rw [if_pos hc]
        exact h2
      · rename_i hc
        rw [if_neg hc]
        obtain ⟨ha, r, ro, hH, hK⟩ := h2
        refine ⟨ha, r, ro, hH, ?_⟩
        have : callE o' r ro = callE o r ro := by unfold callE; rw [hd]
        rw [← this]
        exact hK
    · exact h2.elim
  · rw [effF_N hd ho h h'] at hw
    exact hw

theorem skip_set (o : Oper) (S : PS) : (skipE o).apply S = S.setO o.dst .undef := by
  unfold skipE PS.setO
  cases hd : o.dst with
  | none =>
    simp only [Eff.apply]
    obtain ⟨t, bx, g, ow, fo⟩ := S
    simp only
    congr 1
    funext l
    cases l <;> simp
  | some d =>
    simp only [Eff.apply, PS.set]
    congr 1
    funext l
    cases l with
    | t i j =>
      simp only [Option.some.injEq, Bool.not_false, Bool.and_true]
      by_cases e : d = i
      · subst e; simp
      · have e' : ¬ i = d := fun h => e h.symm
        simp [e, e']
    | b n k => simp

theorem owp_mono {S : PS} {o : Oper} {K K' : PS → Prop} (hk : ∀ S, K S → K' S) (h : owp P N tr o S K) : owp P N tr o S K' := by
  unfold owp at h ⊢
  split at h
  · refine ⟨h.1, ?_⟩
    have h2 := h.2
    split at h2
    · split at h2
      · rename_i hc
        rw [if_pos hc]
        obtain ⟨ns, fo, r, ro, post, hns, hM, hou, hK⟩ := h2
        exact ⟨ns, fo, r, ro, post, hns, hM, hou, hk _ hK⟩
      · rename_i hc
        rw [if_neg hc]
        obtain ⟨ha, r, ro, hH, hK⟩ := h2
        exact ⟨ha, r, ro, hH, hk _ hK⟩
    · exact h2.elim
  · split at h
    · exact hk _ h
    · exact h.elim

theorem rwc_rwp {ops : Array Oper} (hN : dstsOk N ops = true) (hG : gdsOk ops = true) : ∀ (l : List Oper) (Q : PS → Prop) (S : PS), (∀ o ∈ l, o ∈ ops.toList) → rwc P tr (l.map (cop ops.toList)) Q S → rwp P N tr ops l Q S
  | [], Q, S, _, h => h
  | o :: l, Q, S, hm, h => by
    have hmo := hm o List.mem_cons_self
    have ih := fun S' => rwc_rwp hN hG l Q S' fun o ho => hm o (List.mem_cons_of_mem _ ho)
    have hd : dstOk N o = true := List.all_eq_true.1 hN o hmo
    have hgk := List.all_eq_true.1 hG o hmo
    have hd' : dstOk (o.dst.getD 0 + 1) { dst := o.dst, op := o.op, type := 0, pos := "", after := #[], guard := none } = true := by
      unfold dstOk
      cases o.dst <;> simp
    have hgo : ow P tr o.dst o.op S (rwc P tr (l.map (cop ops.toList)) Q) → owp P N tr o S (rwp P N tr ops l Q) := by
      intro hw
      unfold ow at hw
      exact owp_mono ih (owp_of rfl rfl hd hd' hw)
    rw [List.map_cons] at h
    unfold rwc at h
    unfold rwp
    simp only [cop] at h
    cases hg : o.guard with
    | none =>
      rw [hg] at h
      simp only [cgd] at h
      have : gd ops o S = true := by unfold gd; rw [hg]
      rw [if_pos this]
      exact hgo h
    | some q =>
      obtain ⟨j, w⟩ := q
      rw [hg] at h hgk
      simp only [Option.isSome_iff_exists] at hgk
      obtain ⟨d, hjd⟩ := hgk
      obtain ⟨x, hx, hxd⟩ := Option.bind_eq_some_iff.1 hjd
      have hx' : ops.toList[j]? = some x := by simpa using hx
      simp only [cgd, hx', hxd] at h
      have : gd ops o S = gdv (S.t d) w := by
        unfold gd gdv
        rw [hg]
        simp only [hjd]
        rfl
      rw [this]
      split at h
      · rename_i h1
        rw [if_pos h1]
        exact hgo h
      · rename_i h1
        rw [if_neg h1]
        refine ⟨hd, ?_⟩
        rw [skip_set]
        exact ih _ h

theorem pwc_pwp : ∀ (c : Code), codeOk2 N tr c = true → ∀ (Q : Exit → PS → Prop) (S : PS), pwc P tr (ccs c) Q S → pwp P N tr c Q S := by
  intro c
  induction c with
  | region id ops draw =>
    intro hok Q S h
    simp only [codeOk2, Bool.and_eq_true] at hok
    exact rwc_rwp hok.1.1 hok.2 ops.toList _ S (fun _ h => h) h
  | seq a b iha ihb =>
    intro hok Q S h
    simp only [codeOk2, Bool.and_eq_true] at hok
    unfold pwp
    refine pwp_mono (fun e S' hS => ?_) (iha hok.1 (seqQ P (pwc P tr (ccs b) Q) Q) S h)
    cases e with
    | normal => exact ihb hok.2 Q S' hS
    | _ => exact hS
  | cond c a b iha ihb =>
    intro hok Q S h
    simp only [codeOk2, Bool.and_eq_true] at hok
    simp only [ccs, pwc] at h
    unfold pwp
    split at h
    · rename_i t hc
      try (rw [hc]; simp only)
      split at h
      · rename_i ht; rw [if_pos ht]; exact iha hok.1 Q S h
      · rename_i ht; rw [if_neg ht]; exact ihb hok.2 Q S h
    · exact h.elim
  | block id c ih =>
    intro hok Q S h
    refine pwp_mono (fun e S' hS => ?_) (ih hok (blkQ id Q) S h)
    cases e <;> exact hS
  | loop c ih =>
    intro hok Q S h
    obtain ⟨I, μ, h0, hr⟩ := h
    refine ⟨I, μ, h0, fun S1 h1 => pwp_mono (fun e S' hS => ?_) (ih hok _ S1 (hr S1 h1))⟩
    cases e <;> exact hS
  | scope c ih => intro hok Q S h; exact ih hok Q S h
  | skip => intro _ Q S h; exact h
  | exit id => intro _ Q S h; exact h
  | label l => intro _ Q S h; exact h
  | ret => intro _ Q S h; exact h
  | _ => intro hok; cases hok

theorem Holds.by (hm : P.follows .mixedOrders = true) {f : FuncId} {fn : Func} {c : Code} (hf : P.funcs[f]? = some fn) (hname : (fn.name == "runtime.NumGoroutine") = false) (hb : fn.body = some c) (tr : List Nat) {args : List PV}
    (hargs : args.length ≤ fn.ntmps) (hok : codeOk2 fn.ntmps tr c = true) (hres : resOk fn.results.toList = true) {r : PV} {ro : Nat → Bool} (hfree : ptrFree r = true)
    (h : pwc P tr (ccs c) (retQ P fn.results.toList r ro) (PS.start args)) : Holds P f args r ro :=
  Holds.of hm hf hname hb tr hargs (codeOk2_ok c hok) hres hfree (pwc_pwp c hok _ _ h)
theorem Meets.by (hm : P.follows .mixedOrders = true) {f : FuncId} {fn : Func} {c : Code} (hf : P.funcs[f]? = some fn) (hname : (fn.name == "runtime.NumGoroutine") = false) (hb : fn.body = some c) (tr : List Nat) {fo : Nat} {gl : Nat → Nat} {args : List PV} {pre post : List Upd}
    (hargs : args.length ≤ fn.ntmps) (hok : codeOk2 fn.ntmps tr c = true) (hres : resOk fn.results.toList = true) {r : PV} {ro : Nat → Bool}
    (hnr : namesIn (post.map (·.n)) r = true) (hpn : ∀ u ∈ post, namesL (post.map (·.n)) u.c = true ∧ 0 < u.g) (hpre : ∀ u ∈ pre, u.n ∈ post.map (·.n))
    (h : pwc P tr (ccs c) (retM P fn.results.toList r ro post) (PS.startB fo gl args pre)) : Meets P fo gl f args pre r ro post :=
  Meets.of hm hf hname hb tr hargs (codeOk2_ok c hok) hres hnr hpn hpre (pwc_pwp c hok _ _ h)
end

end BoEng

/- The rules by which simp reckons a state: states in a first-order form. -/
namespace BoEng
open Go Go.RowKit

section
variable {P : Program} {tr : List Nat} {S : PS} {K : PS → Prop} {Q : PS → Prop} {l : List CO}

@[simp] theorem slotOf_t (s i j : Nat) : slotOf s (.t i j) = (i == s) := rfl
@[simp] theorem slotOf_b (s i j : Nat) : slotOf s (.b i j) = false := rfl
@[simp] theorem set_t (d : Nat) (v : PV) (i : Nat) : (S.set d v).t i = if i = d then v else S.t i := rfl
@[simp] theorem set_box (d : Nat) (v : PV) : (S.set d v).box = S.box := rfl
@[simp] theorem set_gen (d : Nat) (v : PV) : (S.set d v).gen = S.gen := rfl
@[simp] theorem set_fo (d : Nat) (v : PV) : (S.set d v).fo = S.fo := rfl
@[simp] theorem set_ownt (d : Nat) (v : PV) (i j : Nat) : (S.set d v).own (.t i j) = if i = d then false else S.own (.t i j) := rfl
@[simp] theorem set_ownb (d : Nat) (v : PV) (i j : Nat) : (S.set d v).own (.b i j) = S.own (.b i j) := rfl
@[simp] theorem setO_some {d : Nat} {v : PV} : S.setO (some d) v = S.set d v := rfl
@[simp] theorem setO_none {v : PV} : S.setO none v = S := rfl

/-- The places of boxes, as they become. -/
def updC : List Upd → Nat → List PV → List PV | [], _, d => d | u :: l, n, d => if u.n = n then u.c else updC l n d
def updG : List Upd → Nat → Nat → Nat | [], _, d => d | u :: l, n, d => if u.n = n then u.g else updG l n d
def updO : List Upd → Nat → Nat → Bool → Bool | [], _, _, d => d | u :: l, n, k, d => if u.n = n then u.o k else updO l n k d
@[simp] theorem updC_nil {n : Nat} {d : List PV} : updC [] n d = d := rfl
@[simp] theorem updC_cons {u : Upd} {l : List Upd} {n : Nat} {d : List PV} : updC (u :: l) n d = if u.n = n then u.c else updC l n d := rfl
@[simp] theorem updG_nil {n d : Nat} : updG [] n d = d := rfl
@[simp] theorem updG_cons {u : Upd} {l : List Upd} {n d : Nat} : updG (u :: l) n d = if u.n = n then u.g else updG l n d := rfl
@[simp] theorem updO_nil {n k : Nat} {d : Bool} : updO [] n k d = d := rfl
@[simp] theorem updO_cons {u : Upd} {l : List Upd} {n k : Nat} {d : Bool} : updO (u :: l) n k d = if u.n = n then u.o k else updO l n k d := rfl
theorem updC_eq {l : List Upd} {n : Nat} {d : List PV} : updC l n d = match findU l n with | some u => u.c | none => d := by
  induction l with
  | nil => rfl
  | cons u l ih => simp only [updC, findU]; split <;> simp_all
theorem updG_eq {l : List Upd} {n : Nat} {d : Nat} : updG l n d = match findU l n with | some u => u.g | none => d := by
  induction l with
  | nil => rfl
  | cons u l ih => simp only [updG, findU]; split <;> simp_all
theorem updO_eq {l : List Upd} {n k : Nat} {d : Bool} : updO l n k d = match findU l n with | some u => u.o k | none => d := by
  induction l with
  | nil => rfl
  | cons u l ih => simp only [updO, findU]; split <;> simp_all

theorem ap_own (E : Eff) (i j : Nat) : (E.apply S).own (.t i j) = if E.dst = some i then E.ro j else S.own (.t i j) && !E.clr (.t i j) := rfl
theorem ap_ownB (E : Eff) (n k : Nat) : (E.apply S).own (.b n k) = match findU E.bx n with | some u => u.o k | none => S.own (.b n k) && !E.clr (.b n k) := rfl
theorem ap_tS {d : Nat} {r : PV} {ro : Nat → Bool} {clr : Loc → Bool} {bx : List Upd} {i : Nat} : ((⟨some d, r, ro, clr, bx⟩ : Eff).apply S).t i = if i = d then r else S.t i := rfl

/-- A slot is set by a quiet operation. -/
def PS.q (S : PS) (d : Nat) (v : PV) (b : Bool) : PS := (⟨some d, v, fun _ => b, fun _ => false, []⟩ : Eff).apply S
@[simp] theorem q_t {d : Nat} {v : PV} {b : Bool} {i : Nat} : (S.q d v b).t i = if i = d then v else S.t i := rfl
@[simp] theorem q_box {d : Nat} {v : PV} {b : Bool} : (S.q d v b).box = S.box := rfl
@[simp] theorem q_gen {d : Nat} {v : PV} {b : Bool} : (S.q d v b).gen = S.gen := rfl
@[simp] theorem q_fo {d : Nat} {v : PV} {b : Bool} : (S.q d v b).fo = S.fo := rfl
@[simp] theorem q_ownt {d : Nat} {v : PV} {b : Bool} {i j : Nat} : (S.q d v b).own (.t i j) = if i = d then b else S.own (.t i j) := by
  simp only [PS.q, ap_own, Option.some.injEq, Bool.not_false, Bool.and_true, eq_comm (a := d)]
@[simp] theorem q_ownb {d : Nat} {v : PV} {b : Bool} {i j : Nat} : (S.q d v b).own (.b i j) = S.own (.b i j) := by simp [PS.q, ap_ownB]
/-- A slot is moved, with what is one's own. -/
def PS.m (S : PS) (d s : Nat) (v : PV) : PS := (⟨some d, v, fun j => S.own (.t s j), slotOf s, []⟩ : Eff).apply S
@[simp] theorem m_t {d s : Nat} {v : PV} {i : Nat} : (S.m d s v).t i = if i = d then v else S.t i := rfl
@[simp] theorem m_box {d s : Nat} {v : PV} : (S.m d s v).box = S.box := rfl
@[simp] theorem m_gen {d s : Nat} {v : PV} : (S.m d s v).gen = S.gen := rfl
@[simp] theorem m_fo {d s : Nat} {v : PV} : (S.m d s v).fo = S.fo := rfl
@[simp] theorem m_ownt {d s : Nat} {v : PV} {i j : Nat} : (S.m d s v).own (.t i j) = if i = d then S.own (.t s j) else if i = s then false else S.own (.t i j) := by
  simp only [PS.m, ap_own, Option.some.injEq, slotOf_t, eq_comm (a := d)]
  by_cases h : i = d
  · simp [h]
  · by_cases h2 : i = s <;> simp [h, h2]
@[simp] theorem m_ownb {d s : Nat} {v : PV} {i j : Nat} : (S.m d s v).own (.b i j) = S.own (.b i j) := by simp [PS.m, ap_ownB]
/-- What is appended. -/
def PS.ap (S : PS) (d s : Nat) (xs : List DV) : PS := (⟨some d, .d (.slice xs), fun j => j == 0, slotOf s, []⟩ : Eff).apply S
@[simp] theorem ap_t {d s : Nat} {xs : List DV} {i : Nat} : (S.ap d s xs).t i = if i = d then .d (.slice xs) else S.t i := rfl
@[simp] theorem ap_box {d s : Nat} {xs : List DV} : (S.ap d s xs).box = S.box := rfl
@[simp] theorem ap_gen {d s : Nat} {xs : List DV} : (S.ap d s xs).gen = S.gen := rfl
@[simp] theorem ap_fo {d s : Nat} {xs : List DV} : (S.ap d s xs).fo = S.fo := rfl
@[simp] theorem ap_ownt {d s : Nat} {xs : List DV} {i j : Nat} : (S.ap d s xs).own (.t i j) = if i = d then j == 0 else if i = s then false else S.own (.t i j) := by
  simp only [PS.ap, ap_own, Option.some.injEq, slotOf_t, eq_comm (a := d)]
  by_cases h : i = d
  · simp [h]
  · by_cases h2 : i = s <;> simp [h, h2]
@[simp] theorem ap_ownb {d s : Nat} {xs : List DV} {i j : Nat} : (S.ap d s xs).own (.b i j) = S.own (.b i j) := by simp [PS.ap, ap_ownB]
/-- What is taken out of a box's cell. -/
def PS.lt (S : PS) (d : Nat) (v : PV) (n o : Nat) : PS := (⟨some d, v, fun j => j == 0 && S.own (.b n o), fun l => l == .b n o, []⟩ : Eff).apply S
@[simp] theorem lt_t {d n o : Nat} {v : PV} {i : Nat} : (S.lt d v n o).t i = if i = d then v else S.t i := rfl
@[simp] theorem lt_box {d n o : Nat} {v : PV} : (S.lt d v n o).box = S.box := rfl
@[simp] theorem lt_gen {d n o : Nat} {v : PV} : (S.lt d v n o).gen = S.gen := rfl
@[simp] theorem lt_fo {d n o : Nat} {v : PV} : (S.lt d v n o).fo = S.fo := rfl
@[simp] theorem lt_ownt {d n o : Nat} {v : PV} {i j : Nat} : (S.lt d v n o).own (.t i j) = if i = d then j == 0 && S.own (.b n o) else S.own (.t i j) := by
  have : (Loc.t i j == Loc.b n o) = false := beq_eq_false_iff_ne.2 (by simp)
  simp only [PS.lt, ap_own, Option.some.injEq, eq_comm (a := d), this, Bool.not_false, Bool.and_true]
@[simp] theorem lt_ownb {d n o : Nat} {v : PV} {i j : Nat} : (S.lt d v n o).own (.b i j) = if i = n ∧ j = o then false else S.own (.b i j) := by
  simp only [PS.lt, ap_ownB, findU_nil]
  by_cases h : i = n ∧ j = o
  · simp [h.1, h.2]
  · rw [if_neg h]
    have : (Loc.b i j == Loc.b n o) = false := by simpa using h
    simp [this]
/-- One of several results. -/
def PS.ex (S : PS) (d : Nat) (v : PV) (s k : Nat) : PS := (⟨some d, v, fun j => j == 0 && S.own (.t s k), fun l => l == .t s k, []⟩ : Eff).apply S
@[simp] theorem ex_t {d s k : Nat} {v : PV} {i : Nat} : (S.ex d v s k).t i = if i = d then v else S.t i := rfl
@[simp] theorem ex_box {d s k : Nat} {v : PV} : (S.ex d v s k).box = S.box := rfl
@[simp] theorem ex_gen {d s k : Nat} {v : PV} : (S.ex d v s k).gen = S.gen := rfl
@[simp] theorem ex_fo {d s k : Nat} {v : PV} : (S.ex d v s k).fo = S.fo := rfl
@[simp] theorem ex_ownt {d s k : Nat} {v : PV} {i j : Nat} : (S.ex d v s k).own (.t i j) = if i = d then j == 0 && S.own (.t s k) else if i = s ∧ j = k then false else S.own (.t i j) := by
  simp only [PS.ex, ap_own, Option.some.injEq, eq_comm (a := d)]
  by_cases h : i = d
  · simp [h]
  · by_cases h2 : i = s ∧ j = k
    · rw [if_neg h, if_neg h, if_pos h2]
      simp [h2.1, h2.2]
    · rw [if_neg h, if_neg h, if_neg h2]
      have : (Loc.t i j == Loc.t s k) = false := by simpa using h2
      simp [this]
@[simp] theorem ex_ownb {d s k : Nat} {v : PV} {i j : Nat} : (S.ex d v s k).own (.b i j) = S.own (.b i j) := by
  have : (Loc.b i j == Loc.t s k) = false := beq_eq_false_iff_ne.2 (by simp)
  simp [PS.ex, ap_ownB, this]
/-- A new box, and its place in a slot. -/
def PS.nb (S : PS) (d : Nat) (v : PV) (g : Nat) (c : List PV) (z : Nat → Bool) : PS := (⟨some d, v, fun _ => false, fun _ => false, [⟨S.fo + d, g, c, z⟩]⟩ : Eff).apply S
@[simp] theorem nb_t {d g : Nat} {v : PV} {c : List PV} {z : Nat → Bool} {i : Nat} : (S.nb d v g c z).t i = if i = d then v else S.t i := rfl
@[simp] theorem nb_box {d g : Nat} {v : PV} {c : List PV} {z : Nat → Bool} {m : Nat} : (S.nb d v g c z).box m = if m = S.fo + d then c else S.box m := by
  simp only [PS.nb, Eff.apply, findU_one]; split <;> rename_i h <;> split at h <;> simp_all [eq_comm]
@[simp] theorem nb_gen {d g : Nat} {v : PV} {c : List PV} {z : Nat → Bool} {m : Nat} : (S.nb d v g c z).gen m = if m = S.fo + d then g else S.gen m := by
  simp only [PS.nb, Eff.apply, findU_one]; split <;> rename_i h <;> split at h <;> simp_all [eq_comm]
@[simp] theorem nb_fo {d g : Nat} {v : PV} {c : List PV} {z : Nat → Bool} : (S.nb d v g c z).fo = S.fo := rfl
@[simp] theorem nb_ownt {d g : Nat} {v : PV} {c : List PV} {z : Nat → Bool} {i j : Nat} : (S.nb d v g c z).own (.t i j) = if i = d then false else S.own (.t i j) := by
  simp only [PS.nb, ap_own, Option.some.injEq, Bool.not_false, Bool.and_true, eq_comm (a := d)]
@[simp] theorem nb_ownb {d g : Nat} {v : PV} {c : List PV} {z : Nat → Bool} {m k : Nat} : (S.nb d v g c z).own (.b m k) = if m = S.fo + d then z k else S.own (.b m k) := by
  simp only [PS.nb, ap_ownB, findU_one, Bool.not_false, Bool.and_true]; split <;> rename_i h <;> split at h <;> simp_all [eq_comm]
/-- A store. -/
@[simp] theorem isSl_s {xs : List DV} : isSl (.d (.slice xs)) = true := rfl
@[simp] theorem isSl_int {k : IntKind} {n : Int} : isSl (.d (.int k n)) = false := rfl
@[simp] theorem isSl_bool {n : Bool} : isSl (.d (.bool n)) = false := rfl
@[simp] theorem isSl_str {n : List UInt8} : isSl (.d (.str n)) = false := rfl
@[simp] theorem isSl_agg {n : List DV} : isSl (.d (.agg n)) = false := rfl
@[simp] theorem isSl_bsl {n g l z : Nat} {a : Bool} : isSl (.bsl n g l z a) = false := rfl
@[simp] theorem isSl_pa {n : List PV} : isSl (.pa n) = false := rfl
def stoOwn (S : PS) (v : Operand) (n : Nat) : Bool := match v with | .tmp s => n == 1 && S.own (.t s 0) && isSl (S.t s) | .const c => isNilV c | _ => false
def stoClr (v : Operand) : Loc → Bool := match v with | .tmp s => slotOf s | _ => fun _ => false
@[simp] theorem stoOwn_t {s n : Nat} : stoOwn S (.tmp s) n = (n == 1 && S.own (.t s 0) && isSl (S.t s)) := rfl
@[simp] theorem stoOwn_c {c : Value} {n : Nat} : stoOwn S (.const c) n = isNilV c := rfl
@[simp] theorem stoClr_t {s : Nat} : stoClr (.tmp s) = slotOf s := rfl
@[simp] theorem stoClr_c {c : Value} : stoClr (.const c) = fun _ => false := rfl
@[simp] theorem stoClr_b {v : Operand} {m k : Nat} : stoClr v (.b m k) = false := by cases v <;> rfl
def PS.st (S : PS) (v : Operand) (n g o len : Nat) (c : List PV) : PS := (⟨none, .undef, fun _ => false, stoClr v, [⟨n, g, c, fun k => if o ≤ k ∧ k < o + len then stoOwn S v len else S.own (.b n k)⟩]⟩ : Eff).apply S
@[simp] theorem st_t {v : Operand} {n g o len : Nat} {c : List PV} {i : Nat} : (S.st v n g o len c).t i = S.t i := rfl
@[simp] theorem st_box {v : Operand} {n g o len : Nat} {c : List PV} {m : Nat} : (S.st v n g o len c).box m = if m = n then c else S.box m := by
  simp only [PS.st, Eff.apply, findU_one]; split <;> rename_i h <;> split at h <;> simp_all [eq_comm]
@[simp] theorem st_gen {v : Operand} {n g o len : Nat} {c : List PV} {m : Nat} : (S.st v n g o len c).gen m = if m = n then g else S.gen m := by
  simp only [PS.st, Eff.apply, findU_one]; split <;> rename_i h <;> split at h <;> simp_all [eq_comm]
@[simp] theorem st_fo {v : Operand} {n g o len : Nat} {c : List PV} : (S.st v n g o len c).fo = S.fo := rfl
@[simp] theorem st_ownt {v : Operand} {n g o len : Nat} {c : List PV} {i j : Nat} : (S.st v n g o len c).own (.t i j) = (S.own (.t i j) && !stoClr v (.t i j)) := rfl
@[simp] theorem st_ownb {v : Operand} {n g o len : Nat} {c : List PV} {m k : Nat} : (S.st v n g o len c).own (.b m k) = if m = n then (if o ≤ k ∧ k < o + len then stoOwn S v len else S.own (.b n k)) else S.own (.b m k) := by
  simp only [PS.st, ap_ownB, findU_one, stoClr_b, Bool.not_false, Bool.and_true]
  by_cases h : m = n
  · subst h; simp
  · have h' : ¬ n = m := fun e => h e.symm
    simp [h, h']
/-- An append that makes a box. -/
def PS.nx (S : PS) (d s : Nat) (v : PV) (g : Nat) (c : List PV) : PS := (⟨some d, v, fun _ => false, slotOf s, [⟨S.fo + d, g, c, fun _ => false⟩]⟩ : Eff).apply S
@[simp] theorem nx_t {d s g : Nat} {v : PV} {c : List PV} {i : Nat} : (S.nx d s v g c).t i = if i = d then v else S.t i := rfl
@[simp] theorem nx_box {d s g : Nat} {v : PV} {c : List PV} {m : Nat} : (S.nx d s v g c).box m = if m = S.fo + d then c else S.box m := by
  simp only [PS.nx, Eff.apply, findU_one]; split <;> rename_i h <;> split at h <;> simp_all [eq_comm]
@[simp] theorem nx_gen {d s g : Nat} {v : PV} {c : List PV} {m : Nat} : (S.nx d s v g c).gen m = if m = S.fo + d then g else S.gen m := by
  simp only [PS.nx, Eff.apply, findU_one]; split <;> rename_i h <;> split at h <;> simp_all [eq_comm]
@[simp] theorem nx_fo {d s g : Nat} {v : PV} {c : List PV} : (S.nx d s v g c).fo = S.fo := rfl
@[simp] theorem nx_ownt {d s g : Nat} {v : PV} {c : List PV} {i j : Nat} : (S.nx d s v g c).own (.t i j) = if i = d then false else if i = s then false else S.own (.t i j) := by
  simp only [PS.nx, ap_own, Option.some.injEq, slotOf_t, eq_comm (a := d)]
  by_cases h : i = d
  · simp [h]
  · by_cases h2 : i = s <;> simp [h, h2]
@[simp] theorem nx_ownb {d s g : Nat} {v : PV} {c : List PV} {m k : Nat} : (S.nx d s v g c).own (.b m k) = if m = S.fo + d then false else S.own (.b m k) := by
  simp only [PS.nx, ap_ownB, findU_one, slotOf_b, Bool.not_false, Bool.and_true]; split <;> rename_i h <;> split at h <;> simp_all [eq_comm]
/-- An append that makes a box longer. -/
def PS.gw (S : PS) (d n : Nat) (v : PV) (g : Nat) (c : List PV) : PS := (⟨some d, v, fun _ => false, fun _ => false, [⟨n, g, c, fun k => S.own (.b n k)⟩]⟩ : Eff).apply S
@[simp] theorem gw_t {d n g : Nat} {v : PV} {c : List PV} {i : Nat} : (S.gw d n v g c).t i = if i = d then v else S.t i := rfl
@[simp] theorem gw_box {d n g : Nat} {v : PV} {c : List PV} {m : Nat} : (S.gw d n v g c).box m = if m = n then c else S.box m := by
  simp only [PS.gw, Eff.apply, findU_one]; split <;> rename_i h <;> split at h <;> simp_all [eq_comm]
@[simp] theorem gw_gen {d n g : Nat} {v : PV} {c : List PV} {m : Nat} : (S.gw d n v g c).gen m = if m = n then g else S.gen m := by
  simp only [PS.gw, Eff.apply, findU_one]; split <;> rename_i h <;> split at h <;> simp_all [eq_comm]
@[simp] theorem gw_fo {d n g : Nat} {v : PV} {c : List PV} : (S.gw d n v g c).fo = S.fo := rfl
@[simp] theorem gw_ownt {d n g : Nat} {v : PV} {c : List PV} {i j : Nat} : (S.gw d n v g c).own (.t i j) = if i = d then false else S.own (.t i j) := by
  simp only [PS.gw, ap_own, Option.some.injEq, Bool.not_false, Bool.and_true, eq_comm (a := d)]
@[simp] theorem gw_ownb {d n g : Nat} {v : PV} {c : List PV} {m k : Nat} : (S.gw d n v g c).own (.b m k) = S.own (.b m k) := by
  simp only [PS.gw, ap_ownB, findU_one, Bool.not_false, Bool.and_true]
  by_cases h : n = m
  · subst h; simp
  · simp [h]
/-- A struct whose first cell may be one's own, and its nil cells. -/
def PS.bo (S : PS) (d s : Nat) (v : PV) (nl : Nat → Bool) : PS := (⟨some d, v, fun j => (j == 0 && S.own (.t s 0)) || nl j, slotOf s, []⟩ : Eff).apply S
@[simp] theorem bo_t {d s : Nat} {v : PV} {nl : Nat → Bool} {i : Nat} : (S.bo d s v nl).t i = if i = d then v else S.t i := rfl
@[simp] theorem bo_box {d s : Nat} {v : PV} {nl : Nat → Bool} : (S.bo d s v nl).box = S.box := rfl
@[simp] theorem bo_gen {d s : Nat} {v : PV} {nl : Nat → Bool} : (S.bo d s v nl).gen = S.gen := rfl
@[simp] theorem bo_fo {d s : Nat} {v : PV} {nl : Nat → Bool} : (S.bo d s v nl).fo = S.fo := rfl
@[simp] theorem bo_ownt {d s : Nat} {v : PV} {nl : Nat → Bool} {i j : Nat} : (S.bo d s v nl).own (.t i j) = if i = d then ((j == 0 && S.own (.t s 0)) || nl j) else if i = s then false else S.own (.t i j) := by
  simp only [PS.bo, ap_own, Option.some.injEq, slotOf_t, eq_comm (a := d)]
  by_cases h : i = d
  · simp [h]
  · by_cases h2 : i = s <;> simp [h, h2]
@[simp] theorem bo_ownb {d s : Nat} {v : PV} {nl : Nat → Bool} {i j : Nat} : (S.bo d s v nl).own (.b i j) = S.own (.b i j) := by simp [PS.bo, ap_ownB]
/-- A struct whose nil cells are one's own. -/
def PS.bn (S : PS) (d : Nat) (v : PV) (nl : Nat → Bool) : PS := (⟨some d, v, nl, fun _ => false, []⟩ : Eff).apply S
@[simp] theorem bn_t {d : Nat} {v : PV} {nl : Nat → Bool} {i : Nat} : (S.bn d v nl).t i = if i = d then v else S.t i := rfl
@[simp] theorem bn_box {d : Nat} {v : PV} {nl : Nat → Bool} : (S.bn d v nl).box = S.box := rfl
@[simp] theorem bn_gen {d : Nat} {v : PV} {nl : Nat → Bool} : (S.bn d v nl).gen = S.gen := rfl
@[simp] theorem bn_fo {d : Nat} {v : PV} {nl : Nat → Bool} : (S.bn d v nl).fo = S.fo := rfl
@[simp] theorem bn_ownt {d : Nat} {v : PV} {nl : Nat → Bool} {i j : Nat} : (S.bn d v nl).own (.t i j) = if i = d then nl j else S.own (.t i j) := by
  simp only [PS.bn, ap_own, Option.some.injEq, Bool.not_false, Bool.and_true, eq_comm (a := d)]
@[simp] theorem bn_ownb {d : Nat} {v : PV} {nl : Nat → Bool} {i j : Nat} : (S.bn d v nl).own (.b i j) = S.own (.b i j) := by simp [PS.bn, ap_ownB]
/-- A slice of one element, as a box. -/
def PS.n1 (S : PS) (d s : Nat) (v : PV) (g : Nat) (c : List PV) : PS := (⟨some d, v, fun _ => false, slotOf s, [⟨S.fo + d, g, c, fun k => decide (k < c.length) && S.own (.t s k)⟩]⟩ : Eff).apply S
@[simp] theorem n1_t {d s g : Nat} {v : PV} {c : List PV} {i : Nat} : (S.n1 d s v g c).t i = if i = d then v else S.t i := rfl
@[simp] theorem n1_box {d s g : Nat} {v : PV} {c : List PV} {m : Nat} : (S.n1 d s v g c).box m = if m = S.fo + d then c else S.box m := by
  simp only [PS.n1, Eff.apply, findU_one]; split <;> rename_i h <;> split at h <;> simp_all [eq_comm]
@[simp] theorem n1_gen {d s g : Nat} {v : PV} {c : List PV} {m : Nat} : (S.n1 d s v g c).gen m = if m = S.fo + d then g else S.gen m := by
  simp only [PS.n1, Eff.apply, findU_one]; split <;> rename_i h <;> split at h <;> simp_all [eq_comm]
@[simp] theorem n1_fo {d s g : Nat} {v : PV} {c : List PV} : (S.n1 d s v g c).fo = S.fo := rfl
@[simp] theorem n1_ownt {d s g : Nat} {v : PV} {c : List PV} {i j : Nat} : (S.n1 d s v g c).own (.t i j) = if i = d then false else if i = s then false else S.own (.t i j) := by
  simp only [PS.n1, ap_own, Option.some.injEq, slotOf_t, eq_comm (a := d)]
  by_cases h : i = d
  · simp [h]
  · by_cases h2 : i = s <;> simp [h, h2]
@[simp] theorem n1_ownb {d s g : Nat} {v : PV} {c : List PV} {m k : Nat} : (S.n1 d s v g c).own (.b m k) = if m = S.fo + d then decide (k < c.length) && S.own (.t s k) else S.own (.b m k) := by
  simp only [PS.n1, ap_ownB, findU_one, slotOf_b, Bool.not_false, Bool.and_true]
  by_cases h : m = S.fo + d
  · simp [h]
  · have h' : ¬ S.fo + d = m := fun e => h e.symm
    simp [h, h']
/-- The cells of a box that was put behind another one's are one's own there. -/
def PS.give (S : PS) (u m L : Nat) : PS := { S with own := fun l => match l with | .t i j => S.own (.t i j) | .b n k => if n = u then (if k < L then S.own (.b u k) else S.own (.b m (k - L))) else if n = m then false else S.own (.b n k) }
@[simp] theorem give_t {u m L i : Nat} : (S.give u m L).t i = S.t i := rfl
@[simp] theorem give_box {u m L : Nat} : (S.give u m L).box = S.box := rfl
@[simp] theorem give_gen {u m L : Nat} : (S.give u m L).gen = S.gen := rfl
@[simp] theorem give_fo {u m L : Nat} : (S.give u m L).fo = S.fo := rfl
@[simp] theorem give_ownt {u m L i j : Nat} : (S.give u m L).own (.t i j) = S.own (.t i j) := rfl
@[simp] theorem give_ownb {u m L n k : Nat} : (S.give u m L).own (.b n k) = if n = u then (if k < L then S.own (.b u k) else S.own (.b m (k - L))) else if n = m then false else S.own (.b n k) := rfl
/-- A box is let go. -/
def PS.kl (S : PS) (d : Nat) (v : PV) (n : Nat) : PS := (⟨some d, v, fun _ => false, fun _ => false, [kill S n]⟩ : Eff).apply S
@[simp] theorem kl_t {d n : Nat} {v : PV} {i : Nat} : (S.kl d v n).t i = if i = d then v else S.t i := rfl
@[simp] theorem kl_box {d n : Nat} {v : PV} {m : Nat} : (S.kl d v n).box m = if m = n then [] else S.box m := by
  simp only [PS.kl, Eff.apply, findU_one, kill]; split <;> rename_i h <;> split at h <;> simp_all [eq_comm]
@[simp] theorem kl_gen {d n : Nat} {v : PV} {m : Nat} : (S.kl d v n).gen m = if m = n then S.gen n + 1 else S.gen m := by
  simp only [PS.kl, Eff.apply, findU_one, kill]; split <;> rename_i h <;> split at h <;> simp_all [eq_comm]
@[simp] theorem kl_fo {d n : Nat} {v : PV} : (S.kl d v n).fo = S.fo := rfl
@[simp] theorem kl_ownt {d n : Nat} {v : PV} {i j : Nat} : (S.kl d v n).own (.t i j) = if i = d then false else S.own (.t i j) := by
  simp only [PS.kl, ap_own, Option.some.injEq, Bool.not_false, Bool.and_true, eq_comm (a := d)]
@[simp] theorem kl_ownb {d n : Nat} {v : PV} {m k : Nat} : (S.kl d v n).own (.b m k) = if m = n then false else S.own (.b m k) := by
  simp only [PS.kl, ap_ownB, findU_one, kill, Bool.not_false, Bool.and_true]; split <;> rename_i h <;> split at h <;> simp_all [eq_comm]
/-- A call. -/
def PS.cl (S : PS) (d : Nat) (r : PV) (ro : Nat → Bool) : PS := (⟨some d, r, ro, fun _ => false, []⟩ : Eff).apply S
@[simp] theorem cl_t {d : Nat} {r : PV} {ro : Nat → Bool} {i : Nat} : (S.cl d r ro).t i = if i = d then r else S.t i := rfl
@[simp] theorem cl_box {d : Nat} {r : PV} {ro : Nat → Bool} : (S.cl d r ro).box = S.box := rfl
@[simp] theorem cl_gen {d : Nat} {r : PV} {ro : Nat → Bool} : (S.cl d r ro).gen = S.gen := rfl
@[simp] theorem cl_fo {d : Nat} {r : PV} {ro : Nat → Bool} : (S.cl d r ro).fo = S.fo := rfl
@[simp] theorem cl_ownt {d : Nat} {r : PV} {ro : Nat → Bool} {i j : Nat} : (S.cl d r ro).own (.t i j) = if i = d then ro j else S.own (.t i j) := by
  simp only [PS.cl, ap_own, Option.some.injEq, Bool.not_false, Bool.and_true, eq_comm (a := d)]
@[simp] theorem cl_ownb {d : Nat} {r : PV} {ro : Nat → Bool} {n k : Nat} : (S.cl d r ro).own (.b n k) = S.own (.b n k) := by simp [PS.cl, ap_ownB]
/-- A call that was handed boxes. -/
def PS.cb (S : PS) (d : Option Nat) (r : PV) (ro : Nat → Bool) (post : List Upd) : PS := (⟨d, r, ro, fun _ => false, post⟩ : Eff).apply S
@[simp] theorem cb_tS {d : Nat} {r : PV} {ro : Nat → Bool} {post : List Upd} {i : Nat} : (S.cb (some d) r ro post).t i = if i = d then r else S.t i := rfl
@[simp] theorem cb_tN {r : PV} {ro : Nat → Bool} {post : List Upd} {i : Nat} : (S.cb none r ro post).t i = S.t i := rfl
@[simp] theorem cb_box {d : Option Nat} {r : PV} {ro : Nat → Bool} {post : List Upd} {m : Nat} : (S.cb d r ro post).box m = updC post m (S.box m) := updC_eq.symm
@[simp] theorem cb_gen {d : Option Nat} {r : PV} {ro : Nat → Bool} {post : List Upd} {m : Nat} : (S.cb d r ro post).gen m = updG post m (S.gen m) := updG_eq.symm
@[simp] theorem cb_fo {d : Option Nat} {r : PV} {ro : Nat → Bool} {post : List Upd} : (S.cb d r ro post).fo = S.fo := rfl
@[simp] theorem cb_owntS {d : Nat} {r : PV} {ro : Nat → Bool} {post : List Upd} {i j : Nat} : (S.cb (some d) r ro post).own (.t i j) = if i = d then ro j else S.own (.t i j) := by
  simp only [PS.cb, ap_own, Option.some.injEq, Bool.not_false, Bool.and_true, eq_comm (a := d)]
@[simp] theorem cb_owntN {r : PV} {ro : Nat → Bool} {post : List Upd} {i j : Nat} : (S.cb none r ro post).own (.t i j) = S.own (.t i j) := by simp [PS.cb, ap_own]
@[simp] theorem cb_ownb {d : Option Nat} {r : PV} {ro : Nat → Bool} {post : List Upd} {m k : Nat} : (S.cb d r ro post).own (.b m k) = updO post m k (S.own (.b m k)) := by
  rw [updO_eq]; simp only [PS.cb, ap_ownB, Bool.not_false, Bool.and_true]

/-! ### Codes -/
@[simp] theorem rwc_nil : rwc P tr [] Q S = Q S := rfl
@[simp] theorem rwc_none {d : Option Nat} {op : Op} : rwc P tr (⟨none, d, op⟩ :: l) Q S = ow P tr d op S (rwc P tr l Q) := rfl
/-- A guard that is not yet told: nothing behind it is looked at. -/
inductive Sel (P : Program) (tr : List Nat) (p : PV) (w : Bool) (d : Option Nat) (op : Op) (l : List CO) (Q : PS → Prop) (S : PS) : Prop
  | t (h : gdv p w = true) (k : ow P tr d op S (rwc P tr l Q))
  | f (h : ¬ gdv p w = true) (k : rwc P tr l Q (S.setO d .undef))
theorem sel_T {p : PV} {w : Bool} {d : Option Nat} {op : Op} (h : gdv p w = true) : Sel P tr p w d op l Q S = ow P tr d op S (rwc P tr l Q) :=
  propext ⟨fun x => by cases x with | t _ k => exact k | f h' _ => exact absurd h h', fun k => .t h k⟩
theorem sel_F {p : PV} {w : Bool} {d : Option Nat} {op : Op} (h : ¬ gdv p w = true) : Sel P tr p w d op l Q S = rwc P tr l Q (S.setO d .undef) :=
  propext ⟨fun x => by cases x with | f _ k => exact k | t h' _ => exact absurd h' h, fun k => .f h k⟩
@[simp] theorem sel_tt {d : Option Nat} {op : Op} : Sel P tr (.d (.bool true)) true d op l Q S = ow P tr d op S (rwc P tr l Q) := sel_T rfl
@[simp] theorem sel_ff {d : Option Nat} {op : Op} : Sel P tr (.d (.bool false)) false d op l Q S = ow P tr d op S (rwc P tr l Q) := sel_T rfl
@[simp] theorem sel_tf {d : Option Nat} {op : Op} : Sel P tr (.d (.bool true)) false d op l Q S = rwc P tr l Q (S.setO d .undef) := sel_F (by simp [gdv])
@[simp] theorem sel_ft {d : Option Nat} {op : Op} : Sel P tr (.d (.bool false)) true d op l Q S = rwc P tr l Q (S.setO d .undef) := sel_F (by simp [gdv])
@[simp] theorem sel_u {w : Bool} {d : Option Nat} {op : Op} : Sel P tr .undef w d op l Q S = rwc P tr l Q (S.setO d .undef) := sel_F (by simp [gdv])
theorem sel_by {c w : Bool} {d : Option Nat} {op : Op} (h1 : c = true → Sel P tr (.d (.bool true)) w d op l Q S) (h2 : c = false → Sel P tr (.d (.bool false)) w d op l Q S) : Sel P tr (.d (.bool c)) w d op l Q S := by
  cases c
  · exact h2 rfl
  · exact h1 rfl
@[simp] theorem c_some {j : Nat} {w : Bool} {d : Option Nat} {op : Op} : rwc P tr (⟨some (j, w), d, op⟩ :: l) Q S = Sel P tr (S.t j) w d op l Q S := by
  by_cases h : gdv (S.t j) w = true
  · rw [sel_T h]; simp only [rwc, if_pos h]
  · rw [sel_F h]; simp only [rwc, if_neg h]
@[simp] theorem gdv_bool {b w : Bool} : gdv (.d (.bool b)) w = (b == w) := rfl
@[simp] theorem gdv_undef {w : Bool} : gdv .undef w = false := rfl
@[simp] theorem ev_tmp {t : Nat} : S.ev (.tmp t) = S.t t := rfl
@[simp] theorem ev_const {v : Value} : S.ev (.const v) = ofConst v := rfl
@[simp] theorem ev_func {f : Nat} : S.ev (.func f) = .fn f [] := rfl
@[simp] theorem ofConst_int {k : IntKind} {n : Int} : ofConst (.int k n) = .d (.int k n) := rfl
@[simp] theorem ofConst_bool {b : Bool} : ofConst (.bool b) = .d (.bool b) := rfl
@[simp] theorem ofConst_str {l : List UInt8} : ofConst (.string ⟨⟨l⟩⟩) = .d (.str l) := rfl
@[simp] theorem ofConst_nils : ofConst (.slice none 0 0) = .d (.slice []) := rfl
@[simp] theorem ofConst_nilp : ofConst (.pointer none) = .d (.opq (.pointer none)) := rfl
@[simp] theorem ofConst_nilf : ofConst .nilFunc = .d (.opq .nilFunc) := rfl
@[simp] theorem seqQ_n {k : PS → Prop} {Q : Exit → PS → Prop} : seqQ P k Q .normal S = k S := rfl
@[simp] theorem seqQ_r {k : PS → Prop} {Q : Exit → PS → Prop} : seqQ P k Q .ret S = Q .ret S := rfl
@[simp] theorem seqQ_e {k : PS → Prop} {Q : Exit → PS → Prop} {i : Nat} : seqQ P k Q (.exit i) S = Q (.exit i) S := rfl
@[simp] theorem blkQ_n {j : Nat} {Q : Exit → PS → Prop} : blkQ j Q .normal S = Q .normal S := rfl
@[simp] theorem blkQ_r {j : Nat} {Q : Exit → PS → Prop} : blkQ j Q .ret S = Q .ret S := rfl
@[simp] theorem blkQ_e {i j : Nat} {Q : Exit → PS → Prop} : blkQ j Q (.exit i) S = if i = j then Q .normal S else Q (.exit i) S := rfl
@[simp] theorem pwc_skip {Q : Exit → PS → Prop} : pwc P tr .skip Q S = Q .normal S := rfl
@[simp] theorem pwc_reg {Q : Exit → PS → Prop} : pwc P tr (.reg l) Q S = rwc P tr l (Q .normal) S := rfl
@[simp] theorem pwc_seq {a b : CC} {Q : Exit → PS → Prop} : pwc P tr (.seq a b) Q S = pwc P tr a (seqQ P (pwc P tr b Q) Q) S := rfl
@[simp] theorem pwc_block {i : Nat} {c : CC} {Q : Exit → PS → Prop} : pwc P tr (.block i c) Q S = pwc P tr c (blkQ i Q) S := rfl
@[simp] theorem pwc_exit {i : Nat} {Q : Exit → PS → Prop} : pwc P tr (.exit i) Q S = Q (.exit i) S := rfl
@[simp] theorem pwc_ret {Q : Exit → PS → Prop} : pwc P tr .ret Q S = Q .ret S := rfl
/-- A branch that is not yet told. -/
inductive Cnd (P : Program) (tr : List Nat) (p : PV) (a b : CC) (Q : Exit → PS → Prop) (S : PS) : Prop
  | t (h : p = .d (.bool true)) (k : pwc P tr a Q S)
  | f (h : p = .d (.bool false)) (k : pwc P tr b Q S)
@[simp] theorem cnd_t {a b : CC} {Q : Exit → PS → Prop} : Cnd P tr (.d (.bool true)) a b Q S = pwc P tr a Q S :=
  propext ⟨fun x => by cases x with | t _ k => exact k | f h _ => simp at h, fun k => .t rfl k⟩
@[simp] theorem cnd_f {a b : CC} {Q : Exit → PS → Prop} : Cnd P tr (.d (.bool false)) a b Q S = pwc P tr b Q S :=
  propext ⟨fun x => by cases x with | f _ k => exact k | t h _ => simp at h, fun k => .f rfl k⟩
theorem cnd_by {t : Bool} {a b : CC} {Q : Exit → PS → Prop} (h1 : t = true → pwc P tr a Q S) (h2 : t = false → pwc P tr b Q S) : Cnd P tr (.d (.bool t)) a b Q S := by
  cases t
  · exact .f rfl (h2 rfl)
  · exact .t rfl (h1 rfl)
@[simp] theorem c_cond {c : Operand} {a b : CC} {Q : Exit → PS → Prop} : pwc P tr (.cond c a b) Q S = Cnd P tr (S.ev c) a b Q S := by
  simp only [pwc]
  refine propext ⟨fun h => ?_, fun h => ?_⟩
  · split at h
    · rename_i t ht
      rw [ht]
      cases t
      · exact .f rfl h
      · exact .t rfl h
    · exact h.elim
  · cases h with
    | t h k => rw [h]; exact k
    | f h k => rw [h]; exact k

/-- What follows, if there is a state. -/
def onSt (o : Option PS) (K : PS → Prop) : Prop := match o with | some S => K S | none => False
@[simp] theorem onSt_some {K : PS → Prop} : onSt (some S) K = K S := rfl
@[simp] theorem onSt_none {K : PS → Prop} : onSt none K = False := rfl
theorem onSt_if {c : Prop} [Decidable c] {S' : PS} (h : c) (hk : K S') : onSt (if c then some S' else none) K := by
  rw [if_pos h]
  exact hk

/-- What a plain operation comes to. -/
theorem ow_plain {d : Option Nat} {op : Op} (hc : ∀ x a t, op ≠ .call ⟨.value x, a, t⟩) : ow P tr d op S K = onSt ((effF P (d.getD 0 + 1) tr S { dst := d, op := op, type := 0, pos := "", after := #[], guard := none }).map fun E => E.apply S) K := by
  have : ow P tr d op S K = (match effF P (d.getD 0 + 1) tr S { dst := d, op := op, type := 0, pos := "", after := #[], guard := none } with | some E => K (E.apply S) | none => False) := by
    unfold ow owp
    cases op with
    | call c =>
      obtain ⟨cal, a, t⟩ := c
      cases cal with
      | value x => exact absurd rfl (hc x a t)
      | _ => rfl
    | _ => rfl
  rw [this]
  cases effF P (d.getD 0 + 1) tr S { dst := d, op := op, type := 0, pos := "", after := #[], guard := none } <;> rfl
theorem dst1 {d : Nat} {op : Op} : dstOk ((some d).getD 0 + 1) { dst := some d, op := op, type := 0, pos := "", after := #[], guard := none } = true := by simp [dstOk]
theorem dst2 {d : Nat} {op : Op} : dstOk (d + 1) { dst := some d, op := op, type := 0, pos := "", after := #[], guard := none } = true := by simp [dstOk]
theorem dst0 {op : Op} : dstOk ((none : Option Nat).getD 0 + 1) { dst := none, op := op, type := 0, pos := "", after := #[], guard := none } = true := by simp [dstOk]

/-- A slice that is a box, let go. -/
def thawB (gn : Nat) (c : List PV) (g len sz : Nat) (ag : Bool) : Option (List DV) := if g = gn ∧ len * sz ≤ c.length ∧ (ag = false → sz = 1) then (toD (c.take (len * sz))).map (chunk sz ag len) else none
theorem thawed_B {n g len sz : Nat} {ag : Bool} : thawed S n g len sz ag = thawB (S.gen n) (S.box n) g len sz ag := rfl
/-- A part of a box, as data. -/
def thawW (gn : Nat) (c : List PV) (g lo len sz : Nat) (ag : Bool) : Option (List DV) := if g = gn ∧ (lo + len) * sz ≤ c.length ∧ (ag = false → sz = 1) then (toD ((c.drop (lo * sz)).take (len * sz))).map (chunk sz ag len) else none
theorem thawedV_W {n g lo len sz : Nat} {ag : Bool} : thawedV S n g lo len sz ag = thawW (S.gen n) (S.box n) g lo len sz ag := rfl
def klS (S : PS) (d n : Nat) (xs : List DV) : PS := S.kl d (.d (.slice xs)) n
@[simp] theorem klS_eq {d n : Nat} {xs : List DV} : klS S d n xs = S.kl d (.d (.slice xs)) n := rfl
def klA (S : PS) (d : Nat) (x : List DV × List Nat) : Option PS := match x.2 with | [] => some (S.q d (.d (.agg x.1)) false) | [n] => some (S.kl d (.d (.agg x.1)) n) | _ => none
@[simp] theorem klA_0 {d : Nat} {xs : List DV} : klA S d (xs, []) = some (S.q d (.d (.agg xs)) false) := rfl
@[simp] theorem klA_1 {d n : Nat} {xs : List DV} : klA S d (xs, [n]) = some (S.kl d (.d (.agg xs)) n) := rfl
def frzS (S : PS) (d : Nat) (r : PV) : Option PS :=
  match r with
  | .d x => some (S.q d (.d x) false)
  | .bsl n g len sz ag => (thawB (S.gen n) (S.box n) g len sz ag).map (klS S d n)
  | .pa cs => (frzL S cs).bind (klA S d)
  | _ => none
@[simp] theorem frzS_d {d : Nat} {x : DV} : frzS S d (.d x) = some (S.q d (.d x) false) := rfl
@[simp] theorem frzS_b {d n g len sz : Nat} {ag : Bool} : frzS S d (.bsl n g len sz ag) = (thawB (S.gen n) (S.box n) g len sz ag).map (klS S d n) := rfl
@[simp] theorem frzS_p {d : Nat} {cs : List PV} : frzS S d (.pa cs) = (frzL S cs).bind (klA S d) := rfl
theorem frzE_S {d : Nat} {r : PV} {op : Op} : (frzE { dst := some d, op := op, type := 0, pos := "", after := #[], guard := none } S r).map (fun E => E.apply S) = frzS S d r := by
  cases r with
  | d x => rfl
  | bsl n g len sz ag =>
    simp only [frzE, frzV, frzC, frzS, thawed_B]
    cases thawB (S.gen n) (S.box n) g len sz ag <;> rfl
  | pa cs =>
    simp only [frzE, frzV, frzS]
    cases frzL S cs with
    | none => rfl
    | some x =>
      obtain ⟨x, ns⟩ := x
      cases ns with
      | nil => rfl
      | cons n r => cases r <;> rfl
  | _ => rfl

@[simp] theorem o_move {d s : Nat} : ow P tr (some d) (.move (.tmp s)) S K = if d + 20000 ∈ tr then onSt (frzS S d (S.t s)) K else K (if d ∈ tr then S.m d s (S.t s) else S.q d (S.t s) false) := by
  rw [ow_plain (by simp)]
  simp only [effF, csOk, csOp, fpCk, fpOf, Bool.and_self, if_true, effF0, dst1, if_true, isFz, isTr, List.contains_iff_mem]
  by_cases h : d + 20000 ∈ tr
  · rw [if_pos h, if_pos h]
    have := frzE_S (S := S) (d := d) (r := S.t s) (op := .move (.tmp s))
    rw [← this]
    rfl
  · rw [if_neg h, if_neg h]
    by_cases h2 : d ∈ tr
    · have h3 : tr.contains d = true := by simpa using h2
      simp only [mvEff, h3, if_true, Option.map_some, onSt_some, if_pos h2]
      rfl
    · have h3 : tr.contains d = false := by simpa using h2
      simp only [mvEff, h3, Option.map_some, onSt_some, if_neg h2]
      rfl
@[simp] theorem o_moveC {d : Nat} {v : Value} : ow P tr (some d) (.move (.const v)) S K = if d + 20000 ∈ tr then onSt (frzS S d (ofConst v)) K else K (S.q d (ofConst v) (isNilV v)) := by
  rw [ow_plain (by simp)]
  simp only [effF, csOk, csOp, fpCk, fpOf, Bool.and_self, if_true, effF0, dst1, if_true, isFz, List.contains_iff_mem]
  by_cases h : d + 20000 ∈ tr
  · rw [if_pos h, if_pos h]
    have := frzE_S (S := S) (d := d) (r := ofConst v) (op := .move (.const v))
    rw [← this]
    rfl
  · rw [if_neg h, if_neg h]
    rfl
@[simp] theorem o_moveF {d f : Nat} : ow P tr (some d) (.move (.func f)) S K = if d + 20000 ∈ tr then False else K (S.q d (.fn f []) false) := by
  rw [ow_plain (by simp)]
  simp only [effF, csOk, csOp, fpCk, fpOf, Bool.and_self, if_true, effF0, dst1, if_true, isFz, List.contains_iff_mem]
  by_cases h : d + 20000 ∈ tr
  · rw [if_pos h, if_pos h]; rfl
  · rw [if_neg h, if_neg h]; rfl
/-- What a quiet operation comes to. -/
def qv (P : Program) (S : PS) (op : Op) : Option (PV × Bool) := effV P S { dst := none, op := op, type := 0, pos := "", after := #[], guard := none }
def PS.q2 (S : PS) (d : Nat) (r : PV × Bool) : PS := S.q d r.1 r.2
@[simp] theorem q2_mk {d : Nat} {r : PV} {b : Bool} : S.q2 d (r, b) = S.q d r b := rfl
def isQ : Op → Bool
  | .pick .. => true
  | .nilCheck .. => true
  | .binOp .. => true
  | .unOp .. => true
  | .fieldAddr .. => true
  | .field .. => true
  | .indexAddr .. => true
  | .index .. => true
  | .slice .. => true
  | .makeFunc .. => true
  | .makeInterface .. => true
  | .call ⟨.builtin .len, _, _⟩ => true
  | .call ⟨.builtin .min, _, _⟩ => true
  | .call ⟨.builtin .max, _, _⟩ => true
  | _ => false
/-- An operation at one box alone. -/
def fpG (tr : List Nat) (fo d : Nat) (p : PV) : Prop := match fpT tr d with | some m => atBox (fo + m) p = true ∧ ¬ d ∈ tr ∧ ¬ d + 20000 ∈ tr | none => True
/-- What an operation does at places, told beside whether they are such that nobody writes. -/
def csG (tr : List Nat) (fo d : Nat) (p : PV) : Prop := (if d + 50000 ∈ tr then isCst p = true ∧ ¬ d ∈ tr ∧ ¬ d + 20000 ∈ tr else True) ∧ (if d + 70000 ∈ tr then cmOk tr fo p = true ∧ ¬ d ∈ tr ∧ ¬ d + 20000 ∈ tr else True) ∧ (if d + 90000 ∈ tr then clOk tr fo p = true ∧ ¬ d ∈ tr ∧ ¬ d + 20000 ∈ tr else True) ∧ fpG tr fo d p
theorem ow_cs {d : Nat} {op : Op} {x : Operand} (hc : ∀ x a t, op ≠ .call ⟨.value x, a, t⟩) (hx : csOp op = some x) :
    ow P tr (some d) op S K = (csG tr S.fo d (S.ev x) ∧ onSt ((effF0 P (d + 1) tr S { dst := some d, op := op, type := 0, pos := "", after := #[], guard := none }).map fun E => E.apply S) K) := by
  rw [ow_plain hc]
  simp only [effF]
  have hk : (csOk tr S { dst := some d, op := op, type := 0, pos := "", after := #[], guard := none } && fpCk tr S { dst := some d, op := op, type := 0, pos := "", after := #[], guard := none }) = true ↔ csG tr S.fo d (S.ev x) := by
    have hf : fpCk tr S { dst := some d, op := op, type := 0, pos := "", after := #[], guard := none } = true ↔ fpG tr S.fo d (S.ev x) := by
      have ho : fpOf tr { dst := some d, op := op, type := 0, pos := "", after := #[], guard := none } = (fpT tr d).map fun m => (m, x) := by
        unfold fpOf
        cases op <;> simp [csOp] at hx <;> subst hx <;> rfl
      unfold fpCk fpG
      rw [ho]
      cases fpT tr d with
      | none => simp
      | some m => simp [hx, isTr, isFz]
    rw [Bool.and_eq_true, hf]
    unfold csOk csG isCs isCm isCl isTr isFz
    simp only [hx, Bool.and_eq_true, Bool.or_eq_true, Bool.not_eq_true', List.contains_iff_mem, ← Bool.not_eq_true]
    by_cases h1 : d + 50000 ∈ tr <;> by_cases h2 : d + 70000 ∈ tr <;> by_cases h3 : d + 90000 ∈ tr <;> simp [h1, h2, h3, and_assoc]
  by_cases h : csG tr S.fo d (S.ev x)
  · rw [if_pos (hk.2 h)]
    exact propext ⟨fun h3 => ⟨h, h3⟩, fun h3 => h3.2⟩
  · rw [if_neg (fun e => h (hk.1 e))]
    refine propext ⟨fun h3 => ?_, fun h3 => absurd h3.1 h⟩
    simp [onSt] at h3
theorem o_cs {d : Nat} {op : Op} {x : Operand} (h : isQ op = true) (hx : csOp op = some x) : ow P tr (some d) op S K = (csG tr S.fo d (S.ev x) ∧ onSt ((qv P S op).map (S.q2 d)) K) := by
  have hc : ∀ x a t, op ≠ .call ⟨.value x, a, t⟩ := by
    intro x a t e
    subst e
    simp [isQ] at h
  rw [ow_cs hc hx]
  have h1 : effF0 P (d + 1) tr S { dst := some d, op := op, type := 0, pos := "", after := #[], guard := none } = (qv P S op).map fun r => ⟨some d, r.1, fun _ => r.2, fun _ => false, []⟩ := by
    unfold effF0
    rw [if_pos dst2]
    cases op <;> first | rfl | (simp [csOp] at hx; done) | (simp [isQ] at h; done)
  rw [h1]
  cases qv P S op <;> rfl
theorem o_q {d : Nat} {op : Op} (h : isQ op = true) (hn : csOp op = none) : ow P tr (some d) op S K = onSt ((qv P S op).map (S.q2 d)) K := by
  have hc : ∀ x a t, op ≠ .call ⟨.value x, a, t⟩ := by
    intro x a t e
    subst e
    simp [isQ] at h
  rw [ow_plain hc]
  have h1 : effF P ((some d).getD 0 + 1) tr S { dst := some d, op := op, type := 0, pos := "", after := #[], guard := none } = (qv P S op).map fun r => ⟨some d, r.1, fun _ => r.2, fun _ => false, []⟩ := by
    have hfp : fpCk tr S { dst := some d, op := op, type := 0, pos := "", after := #[], guard := none } = true := by
      unfold fpCk
      have : fpOf tr { dst := some d, op := op, type := 0, pos := "", after := #[], guard := none } = none := by
        unfold fpOf
        cases op <;> first | rfl | (simp [csOp] at hn; done) | (simp [isQ] at h; done)
      rw [this]
    unfold effF csOk
    rw [hn, hfp]
    simp only [Bool.and_self, if_true]
    unfold effF0
    rw [if_pos dst1]
    cases op with
    | call c =>
      obtain ⟨cal, a, t⟩ := c
      cases cal with
      | builtin b => cases b <;> first | rfl | (simp [isQ] at h; done)
      | _ => simp [isQ] at h
    | _ => first | rfl | (simp [isQ] at h; done)
  rw [h1]
  cases qv P S op <;> rfl
@[simp] theorem o_pick {d : Nat} {c a b : Operand} : ow P tr (some d) (.pick c a b) S K = onSt ((qv P S (.pick c a b)).map (S.q2 d)) K := o_q rfl rfl
@[simp] theorem o_nilCheck {d : Nat} {x : Operand} : ow P tr (some d) (.nilCheck x) S K = onSt ((qv P S (.nilCheck x)).map (S.q2 d)) K := o_q rfl rfl
@[simp] theorem o_binOp {d : Nat} {op : BinOp} {t t' : TypeId} {x y : Operand} : ow P tr (some d) (.binOp op t x y t') S K = onSt ((qv P S (.binOp op t x y t')).map (S.q2 d)) K := o_q rfl rfl
@[simp] theorem o_unOp {d : Nat} {op : UnOp} {t : TypeId} {x : Operand} : ow P tr (some d) (.unOp op t x) S K = onSt ((qv P S (.unOp op t x)).map (S.q2 d)) K := o_q rfl rfl
@[simp] theorem o_fieldAddr {d : Nat} {t : TypeId} {x : Operand} {f : Nat} : ow P tr (some d) (.fieldAddr t x f) S K = onSt ((qv P S (.fieldAddr t x f)).map (S.q2 d)) K := o_q rfl rfl
@[simp] theorem o_field {d : Nat} {t : TypeId} {x : Operand} {f : Nat} : ow P tr (some d) (.field t x f) S K = onSt ((qv P S (.field t x f)).map (S.q2 d)) K := o_q rfl rfl
@[simp] theorem o_indexAddr {d : Nat} {t : TypeId} {x i : Operand} : ow P tr (some d) (.indexAddr t x i) S K = (csG tr S.fo d (S.ev x) ∧ onSt ((qv P S (.indexAddr t x i)).map (S.q2 d)) K) := o_cs rfl rfl
@[simp] theorem o_index {d : Nat} {t : TypeId} {x i : Operand} : ow P tr (some d) (.index t x i) S K = onSt ((qv P S (.index t x i)).map (S.q2 d)) K := o_q rfl rfl
@[simp] theorem o_slice {d : Nat} {t : TypeId} {x : Operand} {lo hi mx : Option Operand} : ow P tr (some d) (.slice t x lo hi mx) S K = onSt ((qv P S (.slice t x lo hi mx)).map (S.q2 d)) K := o_q rfl rfl
def boS (P : Program) (S : PS) (d t : Nat) (ps : List (Nat × Operand)) (r : PV × Bool) : PS := match buildOw P S t ps with | some s => S.bo d s r.1 (nilAt P t ps) | none => S.bn d r.1 (nilAt P t ps)
/-- A struct whose nil cell comes to be an empty slice that is a box. -/
def PS.bb (S : PS) (d : Nat) (v : PV) (nl : Nat → Bool) : PS := (⟨some d, v, nl, fun _ => false, [⟨S.fo + d, S.gen (S.fo + d) + 1, [], fun _ => false⟩]⟩ : Eff).apply S
@[simp] theorem bb_t {d : Nat} {v : PV} {nl : Nat → Bool} {i : Nat} : (S.bb d v nl).t i = if i = d then v else S.t i := rfl
@[simp] theorem bb_box {d : Nat} {v : PV} {nl : Nat → Bool} {m : Nat} : (S.bb d v nl).box m = if m = S.fo + d then [] else S.box m := by
  simp only [PS.bb, Eff.apply, findU_one]; split <;> rename_i h <;> split at h <;> simp_all [eq_comm]
@[simp] theorem bb_gen {d : Nat} {v : PV} {nl : Nat → Bool} {m : Nat} : (S.bb d v nl).gen m = if m = S.fo + d then S.gen (S.fo + d) + 1 else S.gen m := by
  simp only [PS.bb, Eff.apply, findU_one]; split <;> rename_i h <;> split at h <;> simp_all [eq_comm]
@[simp] theorem bb_fo {d : Nat} {v : PV} {nl : Nat → Bool} : (S.bb d v nl).fo = S.fo := rfl
@[simp] theorem bb_ownt {d : Nat} {v : PV} {nl : Nat → Bool} {i j : Nat} : (S.bb d v nl).own (.t i j) = if i = d then nl j else S.own (.t i j) := by
  simp only [PS.bb, ap_own, Option.some.injEq, Bool.not_false, Bool.and_true, eq_comm (a := d)]
@[simp] theorem bb_ownb {d : Nat} {v : PV} {nl : Nat → Bool} {m k : Nat} : (S.bb d v nl).own (.b m k) = if m = S.fo + d then false else S.own (.b m k) := by
  simp only [PS.bb, ap_ownB, findU_one, Bool.not_false, Bool.and_true]; split <;> rename_i h <;> split at h <;> simp_all [eq_comm]
attribute [simp] neT
@[simp] theorem o_assignC {d : Nat} {v : Value} : ow P tr (some d) (.assign (.const v)) S K =
    match neT tr d with
    | some (sz, ag) => if isNilV v = true ∧ 0 < sz then K (S.bb d (.bsl (S.fo + d) (S.gen (S.fo + d) + 1) 0 sz ag) (fun _ => false)) else False
    | none => K (S.q d (ofConst v) (isNilV v)) := by
  rw [ow_plain (by simp)]
  simp only [effF, csOk, csOp, fpCk, fpOf, Bool.and_self, if_true, effF0, dst1, if_true]
  have hn : neOf tr { dst := some d, op := Op.assign (Operand.const v), type := 0, pos := "", after := #[], guard := none } (.const v) = neT tr d := rfl
  rcases Option.eq_none_or_eq_some (neT tr d) with hne | ⟨⟨sz, ag⟩, hne⟩ <;> simp only [hn, hne]
  · simp only [Option.isSome_none, Bool.false_eq_true, if_false]; rfl
  · simp only [Option.isSome_some, if_true, neEff]
    by_cases h : isNilV v = true ∧ 0 < sz
    · rw [if_pos h, if_pos h]; rfl
    · rw [if_neg h, if_neg h]; rfl
@[simp] theorem o_assign {d s : Nat} : ow P tr (some d) (.assign (.tmp s)) S K = K (S.m d s (S.t s)) := by
  rw [ow_plain (by simp)]; simp only [effF, csOk, csOp, fpCk, fpOf, Bool.and_self, if_true, effF0, dst1, if_true]; rfl
def nbS (P : Program) (S : PS) (d t : Nat) (ps : List (Nat × Operand)) (c sz : Nat) (ag : Bool) (r : PV × Bool) : Option PS :=
  match pcells r.1 with
  | some cs => if nilAt P t ps c = true ∧ 0 < sz ∧ c < cs.length then some (S.bb d (.pa (cs.set c (.bsl (S.fo + d) (S.gen (S.fo + d) + 1) 0 sz ag))) (fun j => decide (j ≠ c) && nilAt P t ps j)) else none
  | none => none
attribute [simp] nbT nbS
@[simp] theorem o_build {d : Nat} {t : TypeId} {ps : Array (Nat × Operand)} : ow P tr (some d) (.build t ps) S K =
    match nbT tr d with
    | some (c, sz, ag) => onSt ((qv P S (.build t ps)).bind (nbS P S d t ps.toList c sz ag)) K
    | none => if d + 80000 ∈ tr then onSt ((qv P S (.build t ps)).map (boS P S d t ps.toList)) K else onSt ((qv P S (.build t ps)).map (S.q2 d)) K := by
  have e : effV P S { dst := some d, op := .build t ps, type := 0, pos := "", after := #[], guard := none } = qv P S (.build t ps) := rfl
  rw [ow_plain (by simp)]
  simp only [effF, csOk, csOp, fpCk, fpOf, Bool.and_self, if_true, effF0, dst1, if_true, isOw, List.contains_iff_mem, nbOf]
  cases hnb : nbT tr d with
  | some q =>
    obtain ⟨c, sz, ag⟩ := q
    simp only [Option.isSome_some, if_true, nbEff, e]
    cases qv P S (.build t ps) with
    | none => rfl
    | some r =>
      simp only [Option.bind_some, nbS]
      cases pcells r.1 with
      | none => rfl
      | some cs =>
        simp only
        by_cases h : nilAt P t ps.toList c = true ∧ 0 < sz ∧ c < cs.length
        · rw [if_pos h, if_pos h]; rfl
        · rw [if_neg h, if_neg h]; rfl
  | none =>
    simp only [Option.isSome_none, Bool.false_eq_true, if_false]
    by_cases how : d + 80000 ∈ tr
    · rw [if_pos how]
      simp only [how, if_true, e]
      cases qv P S (.build t ps) with
      | none => rfl
      | some r =>
        simp only [Option.map_some, onSt_some, boS]
        cases buildOw P S t ps.toList <;> rfl
    · rw [if_neg how]
      simp only [how, if_false, e]
      cases qv P S (.build t ps) <;> rfl
/-- A slice of one element. -/
def b1S (S : PS) (d s sz : Nat) (ag : Bool) (c : List PV) : PS := S.n1 d s (.bsl (S.fo + d) (S.gen (S.fo + d) + 1) 1 sz ag) (S.gen (S.fo + d) + 1) c
@[simp] theorem b1S_eq {d s sz : Nat} {ag : Bool} {c : List PV} : b1S S d s sz ag c = S.n1 d s (.bsl (S.fo + d) (S.gen (S.fo + d) + 1) 1 sz ag) (S.gen (S.fo + d) + 1) c := rfl
/-- What a new slice of one element asks of a type: an element's cells, whether it is a struct. -/
def el1 (P : Program) (t : Nat) : Option (Nat × Bool) :=
  match elT P t with
  | some e => match aggT P e with | some ag => if 0 < szT P e ∧ szT P e ≤ 16777216 ∧ (zeroT P e).isSome = true then some (szT P e, ag) else none | none => none
  | none => none
def b1O (S : PS) (d s : Nat) (c : List PV) (q : Nat × Bool) : Option PS := if c.length = q.1 ∧ s ≠ d then some (b1S S d s q.1 q.2 c) else none
@[simp] theorem b1O_mk {d s sz : Nat} {ag : Bool} {c : List PV} : b1O S d s c (sz, ag) = if c.length = sz ∧ s ≠ d then some (b1S S d s sz ag c) else none := rfl
/-- A slice of data, as a box. -/
def b2O (S : PS) (d n : Nat) (r : PV) (q : Nat × Bool) : Option PS :=
  match r with
  | .d (.slice xs) => some (S.nb d (.bsl (S.fo + d) (S.gen (S.fo + d) + 1) n q.1 q.2) (S.gen (S.fo + d) + 1) ((flat xs).map .d) (fun _ => false))
  | _ => none
@[simp] theorem b2O_mk {d n sz : Nat} {ag : Bool} {xs : List DV} : b2O S d n (.d (.slice xs)) (sz, ag) = some (S.nb d (.bsl (S.fo + d) (S.gen (S.fo + d) + 1) n sz ag) (S.gen (S.fo + d) + 1) ((flat xs).map .d) (fun _ => false)) := rfl
@[simp] theorem o_buildSlice {d : Nat} {t : TypeId} {n : Nat} {ps : Array (Nat × Operand)} : ow P tr (some d) (.buildSlice t n ps) S K =
    if d + 10000 ∈ tr then (if d + 80000 ∈ tr then onSt ((qv P S (.buildSlice t n ps)).bind fun r => (el1 P t).bind (b2O S d n r.1)) K else match n, ps.toList with | 1, [(0, .tmp s)] => onSt ((pcells (S.t s)).bind fun c => (el1 P t).bind (b1O S d s c)) K | _, _ => ow P tr (some d) (.buildSlice t n ps) S K) else onSt ((qv P S (.buildSlice t n ps)).map (S.q2 d)) K := by
  by_cases hbx : d + 10000 ∈ tr
  · rw [if_pos hbx]
    by_cases how : d + 80000 ∈ tr
    · rw [if_pos how, ow_plain (by simp)]
      simp only [effF, csOk, csOp, fpCk, fpOf, Bool.and_self, if_true, effF0, dst1, if_true, isBx, isOw, List.contains_iff_mem, hbx, how, bsl2Eff, el1, qv, effV]
      cases he : elT P t with
      | none => rfl
      | some e =>
        dsimp only
        by_cases hc : ps.size = n ∧ n * szT P e ≤ 16777216 ∧ 0 < szT P e ∧ (zeroT P e).isSome = true
        · rw [if_pos hc]
          cases hx : elemsD S (szT P e) 0 ps.toList with
          | none =>
            simp only [Option.map_none, Option.bind_none]
            split <;> rfl
          | some xs =>
            simp only [Option.map_some, Option.bind_some]
            cases hag : aggT P e with
            | none =>
              rw [if_neg (by simp)]
              rfl
            | some ag =>
              by_cases h1 : szT P e ≤ 16777216
              · rw [if_pos ⟨hc.1, hc.2.1, hc.2.2.1, hc.2.2.2, h1, rfl⟩]
                dsimp only
                rw [if_pos ⟨hc.2.2.1, h1, hc.2.2.2⟩]
                have : ((some ag : Option Bool) == some true) = ag := by cases ag <;> rfl
                rw [this]
                rfl
              · rw [if_neg (fun h => h1 h.2.2.2.2.1)]
                dsimp only
                rw [if_neg (fun h => h1 h.2.1)]
                rfl
        · rw [if_neg hc, if_neg (fun h => hc ⟨h.1, h.2.1, h.2.2.1, h.2.2.2.1⟩)]
          rfl
    have hno : tr.contains (d + 80000) = false := by simpa using how
    rw [if_neg how]
    split
    · rename_i s hps
      rw [ow_plain (by simp)]
      simp only [effF, csOk, csOp, fpCk, fpOf, Bool.and_self, if_true, effF0, dst1, if_true, isBx, isOw, hno, Bool.false_eq_true, if_false, List.contains_iff_mem, hbx, bslEff, hps, el1]
      cases he : elT P t with
      | none => cases pcells (S.t s) <;> rfl
      | some e =>
        dsimp only
        cases hc : pcells (S.t s) with
        | none => rfl
        | some c =>
          simp only [Option.bind_some, true_and]
          cases hag : aggT P e with
          | none =>
            rw [if_neg (by simp)]
            rfl
          | some ag =>
            simp only [Option.isSome_some, true_and]
            by_cases h1 : 0 < szT P e ∧ szT P e ≤ 16777216 ∧ (zeroT P e).isSome = true
            · rw [if_pos h1]
              simp only [Option.bind_some, b1O_mk]
              by_cases h2 : c.length = szT P e ∧ s ≠ d
              · rw [if_pos ⟨h2.1, h1.1, h1.2.1, h1.2.2, h2.2⟩, if_pos h2]
                have : ((some ag : Option Bool) == some true) = ag := by cases ag <;> rfl
                rw [this]
                rfl
              · rw [if_neg (fun h => h2 ⟨h.1, h.2.2.2.2⟩), if_neg h2]
                rfl
            · rw [if_neg h1, if_neg (fun h => h1 ⟨h.2.1, h.2.2.1, h.2.2.2.1⟩)]
              rfl
    · rfl
  · rw [if_neg hbx, ow_plain (by simp)]
    have hf : tr.contains (d + 10000) = false := by simpa using hbx
    simp only [effF, csOk, csOp, fpCk, fpOf, Bool.and_self, if_true, effF0, dst1, if_true, isBx, hf, Bool.false_eq_true, if_false]
    show onSt (Option.map _ (Option.map _ (qv P S (.buildSlice t n ps)))) K = _
    cases qv P S (.buildSlice t n ps) <;> rfl
@[simp] theorem o_makeFunc {d : Nat} {f : Fn} {a b : Array Operand} : ow P tr (some d) (.makeFunc f a b) S K = onSt ((qv P S (.makeFunc f a b)).map (S.q2 d)) K := o_q rfl rfl
/-- Bytes of a literal, turned to bytes. -/
def cvS (P : Program) (S : PS) (d s t : Nat) (p : PV) : Option PS :=
  match P.underlying s, p with
  | some (.slice e), .bsl n g len sz ag => if s = t ∧ isU8 P e = true ∧ 0 < len then frzS S d (.bsl n g len sz ag) else none
  | _, _ => none
@[simp] theorem o_makeIf {d : Nat} {t : TypeId} {x : Operand} : ow P tr (some d) (.makeInterface t x) S K = onSt ((qv P S (.makeInterface t x)).map (S.q2 d)) K := o_q rfl rfl
@[simp] theorem o_convert {d : Nat} {s t : TypeId} {x : Operand} : ow P tr (some d) (.convert s t x) S K = if d + 20000 ∈ tr then onSt (cvS P S d s t (S.ev x)) K else onSt ((qv P S (.convert s t x)).map (S.q2 d)) K := by
  rw [ow_plain (by simp)]
  by_cases h : d + 20000 ∈ tr
  · rw [if_pos h]
    simp only [effF, csOk, csOp, fpCk, fpOf, Bool.and_self, if_true, effF0, dst1, if_true, isFz, List.contains_iff_mem, h, cvfEff, cvS]
    cases hu : P.underlying s with
    | none => rfl
    | some q =>
      cases hx : S.ev x with
      | bsl n g len sz ag =>
        cases q with
        | slice e =>
          dsimp only
          by_cases hc : s = t ∧ isU8 P e = true ∧ 0 < len
          · rw [if_pos hc, if_pos hc, ← frzE_S (op := .convert s t x)]
          · rw [if_neg hc, if_neg hc]; rfl
        | _ => rfl
      | _ => cases q <;> rfl
  · rw [if_neg h]
    have hf : tr.contains (d + 20000) = false := by simpa using h
    simp only [effF, csOk, csOp, fpCk, fpOf, Bool.and_self, if_true, effF0, dst1, if_true, isFz, hf, Bool.false_eq_true, if_false]
    show onSt (Option.map _ (Option.map _ (qv P S (.convert s t x)))) K = _
    cases qv P S (.convert s t x) <;> rfl
@[simp] theorem o_len {d : Nat} {a : Array Operand} {ts : Array TypeId} : ow P tr (some d) (.call ⟨.builtin .len, a, ts⟩) S K = onSt ((qv P S (.call ⟨.builtin .len, a, ts⟩)).map (S.q2 d)) K := o_q rfl rfl
@[simp] theorem o_min {d : Nat} {a : Array Operand} {ts : Array TypeId} : ow P tr (some d) (.call ⟨.builtin .min, a, ts⟩) S K = onSt ((qv P S (.call ⟨.builtin .min, a, ts⟩)).map (S.q2 d)) K := o_q rfl rfl
@[simp] theorem o_max {d : Nat} {a : Array Operand} {ts : Array TypeId} : ow P tr (some d) (.call ⟨.builtin .max, a, ts⟩) S K = onSt ((qv P S (.call ⟨.builtin .max, a, ts⟩)).map (S.q2 d)) K := o_q rfl rfl

/-! ### loads, stores, boxes -/
def loadV (P : Program) (gen : Nat → Nat) (box : Nat → List PV) (t : TypeId) (x : PV) : Option PV :=
  match x with
  | .ptr n g o =>
    if g = gen n ∧ 0 < szT P t ∧ o + szT P t ≤ (box n).length then
      match aggT P t with
      | some true => some (mkA (((box n).drop o).take (szT P t)))
      | some false => if szT P t = 1 then (box n)[o]? else none
      | none => none
    else none
  | .cptr cs => (partD P t cs 0).map .d
  | _ => none
theorem loadPV_t {t : TypeId} {s : Nat} : loadPV P S t (.tmp s) = loadV P S.gen S.box t (S.t s) := rfl
/-- What is loaded. -/
def loadX (P : Program) (S : PS) (t : TypeId) (x : Operand) : Option PV := loadPV P S t x
@[simp] theorem loadX_t {t : TypeId} {s : Nat} : loadX P S t (.tmp s) = loadV P S.gen S.box t (S.t s) := rfl
@[simp] theorem loadX_g {t : TypeId} {g : Nat} : loadX P S t (.global g) = (glD P g t).map .d := rfl
@[simp] theorem ev_global {g : Nat} : S.ev (.global g) = .any := rfl
def ldT (P : Program) (tr : List Nat) (d t : Nat) (x : PV) (S : PS) (r : PV) : Option PS :=
  if d + 20000 ∈ tr then frzS S d r else if d ∈ tr then (match x with | .ptr n _ o => if aggT P t = some false then some (S.lt d r n o) else none | _ => none) else some (S.q d r false)
@[simp] theorem ldT_p {d t n g o : Nat} {r : PV} : ldT P tr d t (.ptr n g o) S r = if d + 20000 ∈ tr then frzS S d r else if d ∈ tr then (if aggT P t = some false then some (S.lt d r n o) else none) else some (S.q d r false) := rfl
@[simp] theorem ldT_a {d t : Nat} {r : PV} : ldT P tr d t .any S r = if d + 20000 ∈ tr then frzS S d r else if d ∈ tr then none else some (S.q d r false) := rfl
@[simp] theorem ldT_c {d t : Nat} {cs : List DV} {r : PV} : ldT P tr d t (.cptr cs) S r = if d + 20000 ∈ tr then frzS S d r else if d ∈ tr then none else some (S.q d r false) := rfl
@[simp] theorem o_load {d : Nat} {t : TypeId} {x : Operand} : ow P tr (some d) (.load t x) S K = (csG tr S.fo d (S.ev x) ∧ onSt ((loadX P S t x).bind (ldT P tr d t (S.ev x) S)) K) := by
  rw [ow_cs (by simp) rfl]
  have key : onSt ((effF0 P (d + 1) tr S { dst := some d, op := .load t x, type := 0, pos := "", after := #[], guard := none }).map fun E => E.apply S) K = onSt ((loadX P S t x).bind (ldT P tr d t (S.ev x) S)) K := by
   simp only [effF0, dst2, if_true, loadX]
   cases loadPV P S t x with
   | none => rfl
   | some r =>
     simp only [Option.bind_some, ldT, isFz, isTr, List.contains_iff_mem]
     by_cases h : d + 20000 ∈ tr
     · rw [if_pos h, if_pos h, frzE_S]
     · rw [if_neg h, if_neg h]
       by_cases h2 : d ∈ tr
       · rw [if_pos h2, if_pos h2]
         cases S.ev x with
         | ptr n g o =>
           cases aggT P t with
           | none => rfl
           | some b => cases b <;> rfl
         | _ => rfl
       · rw [if_neg h2, if_neg h2]
         rfl
  rw [key]

structure Sto where
  n : Nat
  g : Nat
  o : Nat
  cs : List PV
def stoV (P : Program) (t : Nat) (gen : Nat → Nat) (box : Nat → List PV) (x : PV) (cs : Option (List PV)) : Option Sto :=
  match x, cs with
  | .ptr n g o, some cs => if g = gen n ∧ cs.length = szT P t ∧ 0 < szT P t ∧ o + cs.length ≤ (box n).length then some ⟨n, g, o, cs⟩ else none
  | _, _ => none
@[simp] theorem stoV_p {t : Nat} {gen : Nat → Nat} {box : Nat → List PV} {n g o : Nat} {cs : List PV} : stoV P t gen box (.ptr n g o) (some cs) = if g = gen n ∧ cs.length = szT P t ∧ 0 < szT P t ∧ o + cs.length ≤ (box n).length then some ⟨n, g, o, cs⟩ else none := rfl
/-- Cells are laid over others. -/
def over (l : List PV) (o : Nat) (cs : List PV) : List PV := l.take o ++ cs ++ l.drop (o + cs.length)
def stS (S : PS) (v : Operand) (q : Sto) : PS := S.st v q.n q.g q.o q.cs.length (over (S.box q.n) q.o q.cs)
@[simp] theorem stS_mk {v : Operand} {n g o : Nat} {cs : List PV} : stS S v ⟨n, g, o, cs⟩ = S.st v n g o cs.length (over (S.box n) o cs) := rfl
/-- A store at one box alone. -/
def stG (tr : List Nat) (fo : Nat) (v : Operand) (p : PV) : Prop := match v with | .tmp s => (match fpT tr (2000 + s) with | some m => atBox (fo + m) p = true | none => True) | _ => True
@[simp] theorem stG_t {fo s : Nat} {p : PV} : stG tr fo (.tmp s) p = (match fpT tr (2000 + s) with | some m => atBox (fo + m) p = true | none => True) := rfl
@[simp] theorem stG_c {fo : Nat} {v : Value} {p : PV} : stG tr fo (.const v) p = True := rfl
theorem stG_ck {t : TypeId} {x v : Operand} : fpCk tr S { dst := none, op := .store t x v, type := 0, pos := "", after := #[], guard := none } = true ↔ stG tr S.fo v (S.ev x) := by
  cases v with
  | tmp s =>
    unfold fpCk fpOf stG
    simp only
    cases fpT tr (2000 + s) with
    | none => simp
    | some m => simp [csOp]
  | _ => simp [fpCk, fpOf, stG]
@[simp] theorem o_store {t : TypeId} {x v : Operand} : ow P tr none (.store t x v) S K = (stG tr S.fo v (S.ev x) ∧ onSt ((stoV P t S.gen S.box (S.ev x) (pcells (S.ev v))).map (stS S v)) K) := by
  rw [ow_plain (by simp)]
  have hf := stG_ck (tr := tr) (S := S) (t := t) (x := x) (v := v)
  by_cases hg : stG tr S.fo v (S.ev x)
  case neg =>
    have h0 : fpCk tr S { dst := none, op := .store t x v, type := 0, pos := "", after := #[], guard := none } = false := by
      rw [Bool.eq_false_iff]
      exact fun e => hg (hf.1 e)
    simp only [effF, h0, Bool.and_false, Bool.false_eq_true, if_false, hg, false_and]
    rfl
  simp only [effF, csOk, csOp, hf.2 hg, Bool.and_self, if_true, effF0, dst0, if_true, hg, true_and]
  cases hx : S.ev x with
  | ptr n g o =>
    cases hc : pcells (S.ev v) with
    | none => rfl
    | some cs =>
      by_cases h : g = S.gen n ∧ cs.length = szT P t ∧ 0 < szT P t ∧ o + cs.length ≤ (S.box n).length
      · rw [stoV_p, if_pos h]
        simp only [if_pos h]
        cases v with
        | tmp s =>
          have e1 : (match S.t s with | .d (.slice _) => true | _ => false) = isSl (S.t s) := rfl
          simp only [ev_tmp, e1]
          rfl
        | _ => rfl
      · rw [stoV_p, if_neg h]
        simp only [if_neg h]
        rfl
  | _ => rfl

/-! ### maps -/
/-- A map comes to be another one. -/
def PS.im (S : PS) (n g : Nat) (c : List PV) : PS := (⟨none, .undef, fun _ => false, fun _ => false, [⟨n, g, c, fun _ => false⟩]⟩ : Eff).apply S
@[simp] theorem im_t {n g : Nat} {c : List PV} {i : Nat} : (S.im n g c).t i = S.t i := rfl
@[simp] theorem im_box {n g : Nat} {c : List PV} {m : Nat} : (S.im n g c).box m = if m = n then c else S.box m := by
  simp only [PS.im, Eff.apply, findU_one]; split <;> rename_i h <;> split at h <;> simp_all [eq_comm]
@[simp] theorem im_gen {n g : Nat} {c : List PV} {m : Nat} : (S.im n g c).gen m = if m = n then g else S.gen m := by
  simp only [PS.im, Eff.apply, findU_one]; split <;> rename_i h <;> split at h <;> simp_all [eq_comm]
@[simp] theorem im_fo {n g : Nat} {c : List PV} : (S.im n g c).fo = S.fo := rfl
@[simp] theorem im_ownt {n g : Nat} {c : List PV} {i j : Nat} : (S.im n g c).own (.t i j) = S.own (.t i j) := by
  show (S.own (.t i j) && !false) = _
  simp
@[simp] theorem im_ownb {n g : Nat} {c : List PV} {m k : Nat} : (S.im n g c).own (.b m k) = if m = n then false else S.own (.b m k) := by
  simp only [PS.im, ap_ownB, findU_one, Bool.not_false, Bool.and_true]; split <;> rename_i h <;> split at h <;> simp_all [eq_comm]
def insS (P : Program) (S : PS) (t : TypeId) (m k x : PV) : Option PS :=
  match m, k, mpT P t with
  | .mp n g, .d kk, some (kd, _) => if g = S.gen n then (mput kd kk x (S.box n)).map (S.im n g) else none
  | _, _, _ => none
@[simp] theorem o_makeMap {d : Nat} {t : TypeId} : ow P tr (some d) (.makeMap t none) S K = K (S.nb d (.mp (S.fo + d) (S.gen (S.fo + d) + 1)) (S.gen (S.fo + d) + 1) [] (fun _ => false)) := by
  rw [ow_plain (by simp)]
  simp only [effF, csOk, csOp, fpCk, fpOf, Bool.and_self, if_true, effF0, dst1, if_true, mkEff, Option.map_some, onSt_some]
  rfl
@[simp] theorem o_insert {t : TypeId} {m k x : Operand} : ow P tr none (.insert t m k x) S K = onSt (insS P S t (S.ev m) (S.ev k) (S.ev x)) K := by
  rw [ow_plain (by simp)]
  simp only [effF, csOk, csOp, fpCk, fpOf, Bool.and_self, if_true, effF0, dst0, if_true, insEff, insS]
  cases hm : S.ev m with
  | mp n g =>
    cases hk : S.ev k with
    | d kk =>
      cases ht : mpT P t with
      | none => rfl
      | some q =>
        obtain ⟨kd, e⟩ := q
        dsimp only
        by_cases h : g = S.gen n
        · rw [if_pos h, if_pos h]
          cases mput kd kk (S.ev x) (S.box n) <;> rfl
        · rw [if_neg h, if_neg h]
          rfl
    | _ => rfl
  | _ => rfl
def cpS (P : Program) (S : PS) (d : Nat) (t : TypeId) (x y : PV) : Option PS :=
  match cpAt x, y, elT P t with
  | some (n, g, lo, len), .d (.slice xs), some e =>
    if g = S.gen n ∧ szT P e = 1 ∧ 0 < xs.length ∧ xs.length ≤ len ∧ lo + xs.length ≤ (S.box n).length ∧ xs.all isIt = true then some ((S.im n g ((S.box n).take lo ++ xs.map .d ++ (S.box n).drop (lo + xs.length))).q d (.d (.int .i64 xs.length)) false) else none
  | _, _, _ => none
theorem im_q {d n g : Nat} {c : List PV} {v : PV} : (S.im n g c).q d v false = (⟨some d, v, fun _ => false, fun _ => false, [⟨n, g, c, fun _ => false⟩]⟩ : Eff).apply S := by
  simp only [PS.im, PS.q, Eff.apply, findU_nil, Bool.not_false, Bool.and_true]
  congr 1
@[simp] theorem o_copy {d : Nat} {t t2 : TypeId} {x y : Operand} : ow P tr (some d) (.call ⟨.builtin .copy, ⟨[x, y]⟩, ⟨[t, t2]⟩⟩) S K = onSt (cpS P S d t (S.ev x) (S.ev y)) K := by
  rw [ow_plain (by simp)]
  simp only [effF, csOk, csOp, fpCk, fpOf, Bool.and_self, if_true, effF0, dst1, if_true, cpEff, cpS]
  cases cpAt (S.ev x) with
  | none => rfl
  | some q =>
    obtain ⟨n, g, lo, len⟩ := q
    cases S.ev y with
    | d v =>
      cases v with
      | slice xs =>
        cases elT P t with
        | none => rfl
        | some e =>
          dsimp only
          split
          · rw [im_q]
            rfl
          · rfl
      | _ => rfl
    | _ => rfl
@[simp] theorem o_lookup {d : Nat} {t : TypeId} {m k : Operand} {ok : Bool} : ow P tr (some d) (.lookup t m k ok) S K = onSt ((lkV P S.gen S.box t (S.ev m) (S.ev k) ok).map fun r => S.q d r false) K := by
  rw [ow_plain (by simp)]
  simp only [effF, csOk, csOp, fpCk, fpOf, Bool.and_self, if_true, effF0, dst1, if_true]
  cases lkV P S.gen S.box t (S.ev m) (S.ev k) ok <;> rfl

def zeroC (P : Program) (e : TypeId) : Option (List DV) := match zeroT P e with | some z => if z.cells.toList.all (·.oneCell') = true then some (z.cells.toList.map ofConstD) else none | none => none
def nilC (P : Program) (e : TypeId) (k : Nat) : Bool := match zeroT P e with | some z => isNilV (z.cells.getD k undef) | none => false
theorem nilAt_eq {t : TypeId} {ps : List (Nat × Operand)} {j : Nat} : nilAt P t ps j = (offOk P t j ps && nilC P t j) := by
  unfold nilAt nilC
  congr 1
  cases zeroT P t with
  | none => rfl
  | some z =>
    by_cases h : j < z.cells.size
    · simp [h]
    · simp only [h, decide_false, Bool.false_and]
      rw [Array.getD_eq_getD_getElem?, Array.getElem?_eq_none (by omega)]
      rfl
@[simp] theorem offOk_nil {t : TypeId} {j : Nat} : offOk P t j [] = true := rfl
@[simp] theorem offOk_cons {t : TypeId} {j i : Nat} {x : Operand} {r : List (Nat × Operand)} : offOk P t j ((i, x) :: r) = ((match fldT P t i with | some (off, ft) => decide (j < off ∨ off + szT P ft ≤ j) | none => false) && offOk P t j r) := rfl
@[simp] theorem buildOw_nil {t : TypeId} : buildOw P S t [] = none := rfl
@[simp] theorem buildOw_c {t : TypeId} {i : Nat} {v : Value} {r : List (Nat × Operand)} : buildOw P S t ((i, .const v) :: r) = none := rfl
@[simp] theorem buildOw_t {t : TypeId} {i s : Nat} {r : List (Nat × Operand)} : buildOw P S t ((i, .tmp s) :: r) = (match fldT P t i with | some (off, ft) => if off = 0 ∧ szT P ft = 1 ∧ offOk P t 0 r = true ∧ isSl (S.t s) = true then some s else none | none => none) := rfl
attribute [simp] nilAt_eq boS
def alS (P : Program) (S : PS) (d e : Nat) (c : List DV) : PS := S.nb d (.ptr (S.fo + d) (S.gen (S.fo + d) + 1) 0) (S.gen (S.fo + d) + 1) (c.map .d) (nilC P e)
@[simp] theorem alS_eq {d e : Nat} {c : List DV} : alS P S d e c = S.nb d (.ptr (S.fo + d) (S.gen (S.fo + d) + 1) 0) (S.gen (S.fo + d) + 1) (c.map .d) (nilC P e) := rfl
@[simp] theorem o_alloc {d : Nat} {e : TypeId} : ow P tr (some d) (.alloc e) S K = onSt ((zeroC P e).map (alS P S d e)) K := by
  rw [ow_plain (by simp)]
  simp only [effF, csOk, csOp, fpCk, fpOf, Bool.and_self, if_true, effF0, dst1, if_true, zeroC]
  cases hz : zeroT P e with
  | none => rfl
  | some z =>
    by_cases hall : z.cells.toList.all (·.oneCell') = true
    · simp only [if_pos hall, Option.map_some, onSt_some, alS, PS.nb, List.map_map]
      have : nilC P e = fun k => isNilV (z.cells.getD k undef) := by funext k; simp only [nilC, hz]
      rw [this]
      rfl
    · simp only [if_neg hall]
      rfl
def bxF (S : PS) (d : Nat) (c : List DV) : PS := S.q d (.cptr c) false
@[simp] theorem bxF_eq {d : Nat} {c : List DV} : bxF S d c = S.q d (.cptr c) false := rfl
def bxS (S : PS) (d : Nat) (c : List PV) : PS := S.nb d (.ptr (S.fo + d) (S.gen (S.fo + d) + 1) 0) (S.gen (S.fo + d) + 1) c (fun _ => false)
@[simp] theorem bxS_eq {d : Nat} {c : List PV} : bxS S d c = S.nb d (.ptr (S.fo + d) (S.gen (S.fo + d) + 1) 0) (S.gen (S.fo + d) + 1) c (fun _ => false) := rfl
def bxO (S : PS) (d : Nat) (x : Operand) (c : List PV) : Option PS := match x with | .tmp s => if s ≠ d then some (S.n1 d s (.ptr (S.fo + d) (S.gen (S.fo + d) + 1) 0) (S.gen (S.fo + d) + 1) c) else none | _ => none
@[simp] theorem bxO_t {d s : Nat} {c : List PV} : bxO S d (.tmp s) c = if s ≠ d then some (S.n1 d s (.ptr (S.fo + d) (S.gen (S.fo + d) + 1) 0) (S.gen (S.fo + d) + 1) c) else none := rfl
@[simp] theorem o_box {d : Nat} {e : TypeId} {x : Operand} : ow P tr (some d) (.box e x) S K = if d + 20000 ∈ tr then onSt (((pcells (S.ev x)).bind toD).map (bxF S d)) K else if d + 80000 ∈ tr then onSt ((pcells (S.ev x)).bind (bxO S d x)) K else onSt ((pcells (S.ev x)).map (bxS S d)) K := by
  rw [ow_plain (by simp)]
  simp only [effF, csOk, csOp, fpCk, fpOf, Bool.and_self, if_true, effF0, dst1, if_true, isFz, List.contains_iff_mem]
  by_cases h : d + 20000 ∈ tr
  · rw [if_pos h]
    simp only [if_pos h]
    cases pcells (S.ev x) with
    | none => rfl
    | some cs =>
      simp only [Option.bind_some]
      cases toD cs <;> rfl
  · rw [if_neg h]
    simp only [if_neg h, isOw, List.contains_iff_mem]
    by_cases h2 : d + 80000 ∈ tr
    · rw [if_pos h2]
      simp only [if_pos h2]
      cases pcells (S.ev x) with
      | none => rfl
      | some cs =>
        simp only [Option.bind_some]
        cases x with
        | tmp s =>
          simp only [boxOw, bxO_t]
          by_cases h3 : s ≠ d
          · rw [if_pos h3, if_pos h3]; rfl
          · rw [if_neg h3, if_neg h3]; rfl
        | _ => rfl
    · rw [if_neg h2]
      simp only [if_neg h2]
      cases pcells (S.ev x) <;> rfl
def extV (p : PV) (k : Nat) : Option PV := match p with | .tup ps => (match ps[k]? with | some (.tup _) => none | some p => some p | none => none) | _ => none
@[simp] theorem extV_tup {ps : List PV} {k : Nat} : extV (.tup ps) k = (match ps[k]? with | some (.tup _) => none | some p => some p | none => none) := rfl
def PS.exS (S : PS) (d s k : Nat) (p : PV) : PS := S.ex d p s k
@[simp] theorem exS_eq {d s k : Nat} {p : PV} : S.exS d s k p = S.ex d p s k := rfl
@[simp] theorem o_ext {d s k : Nat} : ow P tr (some d) (.extract (.tmp s) k) S K = onSt ((extV (S.t s) k).map (S.exS d s k)) K := by
  rw [ow_plain (by simp)]
  simp only [effF, csOk, csOp, fpCk, fpOf, Bool.and_self, if_true, effF0, dst1, if_true]
  cases S.t s with
  | tup ps =>
    simp only [extV]
    cases ps[k]? with
    | none => rfl
    | some p => cases p <;> rfl
  | _ => rfl

/-! ### appends, new slices -/
/-- What an append asks of a type: an element's cells, its size in bytes, the zero one, whether that is one cell. -/
def apT (P : Program) (t : Nat) : Option (Nat × Nat × DV × Bool) :=
  match elT P t with
  | some e => match bytT P e, zeroT P e with
    | some b, some z => if z.cells.size = szT P e ∧ 0 < szT P e ∧ 0 < b then some (szT P e, b, ofConstD z, z.oneCell') else none
    | _, _ => none
  | none => none
/-- Whether its elements are structs. -/
def agE (P : Program) (t : Nat) : Option Bool := (elT P t).bind (aggT P)
def apS (u : Option TypeDesc) (z : DV) (o : Bool) (y : PV) : Option (List DV) :=
  match y, u with
  | .d (.slice ys), some (.slice _) => some ys
  | .d (.str s), some .string => some (s.map fun b => .int .u8 b.toNat)
  | .d (.int _ n), some (.int _) => if 0 ≤ n ∧ n ≤ 9223372036854775807 ∧ o = true then some (List.replicate n.toNat z) else none
  | _, _ => none
/-- What is put behind. -/
def apY (rd : Bool) (u : Option TypeDesc) (z : DV) (o : Bool) (S : PS) (y : PV) : Option (List DV) :=
  match y with
  | .bsl n g len sz ag => (match u with | some (.slice _) => if rd = true then thawB (S.gen n) (S.box n) g len sz ag else none | _ => none)
  | .view n g lo len sz ag _ => (match u with | some (.slice _) => if rd = true then thawW (S.gen n) (S.box n) g lo len sz ag else none | _ => none)
  | y => apS u z o y
@[simp] theorem apY_s {rd : Bool} {e : TypeId} {z : DV} {o : Bool} {ys : List DV} : apY rd (some (.slice e)) z o S (.d (.slice ys)) = some ys := rfl
@[simp] theorem apY_str {rd : Bool} {z : DV} {o : Bool} {s : List UInt8} : apY rd (some .string) z o S (.d (.str s)) = some (s.map fun b => .int .u8 b.toNat) := rfl
@[simp] theorem apY_n {rd : Bool} {k k' : IntKind} {z : DV} {o : Bool} {n : Int} : apY rd (some (.int k)) z o S (.d (.int k' n)) = if 0 ≤ n ∧ n ≤ 9223372036854775807 ∧ o = true then some (List.replicate n.toNat z) else none := rfl
@[simp] theorem apY_b {rd : Bool} {e : TypeId} {z : DV} {o : Bool} {n g len sz : Nat} {ag : Bool} : apY rd (some (.slice e)) z o S (.bsl n g len sz ag) = if rd = true then thawB (S.gen n) (S.box n) g len sz ag else none := rfl
@[simp] theorem apY_v {rd : Bool} {e : TypeId} {z : DV} {o : Bool} {n g lo len sz : Nat} {ag ti : Bool} : apY rd (some (.slice e)) z o S (.view n g lo len sz ag ti) = if rd = true then thawW (S.gen n) (S.box n) g lo len sz ag else none := rfl
/-- The state behind an append. -/
def apF (S : PS) (d s : Nat) (q : Nat × Nat × DV × Bool) (bx : Bool) (ae : Option Bool) (x : PV) (own : Bool) (ys : List DV) : Option PS :=
  if szOk q.1 ys = true then
    match x with
    | .d (.slice xs) =>
      if bx = true then
        match ae with
        | some ag => if own = true ∧ xs = [] ∧ ys.length * q.2.1 ≤ 140737488355328 ∧ (ag = false → q.1 = 1) then some (S.nx d s (.bsl (S.fo + d) (S.gen (S.fo + d) + 1) ys.length q.1 ag) (S.gen (S.fo + d) + 1) ((flat ys).map .d)) else none
        | none => none
      else if own = true ∧ szOk q.1 xs = true ∧ (xs.length + ys.length) * q.2.1 ≤ 140737488355328 then some (S.ap d s (xs ++ ys)) else none
    | .bsl n g len sz ag =>
      if g = S.gen n ∧ sz = q.1 ∧ (S.box n).length = len * sz ∧ (len + ys.length) * q.2.1 ≤ 140737488355328 ∧ bx = true then some (S.gw d n (.bsl n (g + 1) (len + ys.length) sz ag) (g + 1) (S.box n ++ (flat ys).map .d)) else none
    | .view n g lo len sz ag ti =>
      if ti = true ∧ g = S.gen n ∧ sz = q.1 ∧ (lo + len) * sz ≤ (S.box n).length ∧ 0 < ys.length ∧ (len + ys.length) * q.2.1 ≤ 140737488355328 ∧ bx = true then
        some (S.nb d (.bsl (S.fo + d) (S.gen (S.fo + d) + 1) (len + ys.length) sz ag) (S.gen (S.fo + d) + 1) (((S.box n).drop (lo * sz)).take (len * sz) ++ (flat ys).map .d) (fun _ => false)) else none
    | _ => none
  else none
@[simp] theorem apF_s {d s : Nat} {q : Nat × Nat × DV × Bool} {ae : Option Bool} {xs : List DV} {own : Bool} {ys : List DV} :
    apF S d s q false ae (.d (.slice xs)) own ys = if szOk q.1 ys = true ∧ own = true ∧ szOk q.1 xs = true ∧ (xs.length + ys.length) * q.2.1 ≤ 140737488355328 then some (S.ap d s (xs ++ ys)) else none := by
  unfold apF
  by_cases h : szOk q.1 ys = true
  · simp [h]
  · simp [h]
@[simp] theorem apF_n {d s : Nat} {q : Nat × Nat × DV × Bool} {ag : Bool} {xs : List DV} {own : Bool} {ys : List DV} :
    apF S d s q true (some ag) (.d (.slice xs)) own ys = if szOk q.1 ys = true ∧ own = true ∧ xs = [] ∧ ys.length * q.2.1 ≤ 140737488355328 ∧ (ag = false → q.1 = 1) then some (S.nx d s (.bsl (S.fo + d) (S.gen (S.fo + d) + 1) ys.length q.1 ag) (S.gen (S.fo + d) + 1) ((flat ys).map .d)) else none := by
  unfold apF
  by_cases h : szOk q.1 ys = true
  · simp [h]
  · simp [h]
@[simp] theorem apF_b {d s : Nat} {q : Nat × Nat × DV × Bool} {ae : Option Bool} {n g len sz : Nat} {ag own : Bool} {ys : List DV} :
    apF S d s q true ae (.bsl n g len sz ag) own ys = if szOk q.1 ys = true ∧ g = S.gen n ∧ sz = q.1 ∧ (S.box n).length = len * sz ∧ (len + ys.length) * q.2.1 ≤ 140737488355328 then some (S.gw d n (.bsl n (g + 1) (len + ys.length) sz ag) (g + 1) (S.box n ++ (flat ys).map .d)) else none := by
  unfold apF
  by_cases h : szOk q.1 ys = true
  · simp [h]
  · simp [h]
@[simp] theorem apF_v {d s : Nat} {q : Nat × Nat × DV × Bool} {ae : Option Bool} {n g lo len sz : Nat} {ag ti own : Bool} {ys : List DV} :
    apF S d s q true ae (.view n g lo len sz ag ti) own ys = if szOk q.1 ys = true ∧ ti = true ∧ g = S.gen n ∧ sz = q.1 ∧ (lo + len) * sz ≤ (S.box n).length ∧ 0 < ys.length ∧ (len + ys.length) * q.2.1 ≤ 140737488355328 then
      some (S.nb d (.bsl (S.fo + d) (S.gen (S.fo + d) + 1) (len + ys.length) sz ag) (S.gen (S.fo + d) + 1) (((S.box n).drop (lo * sz)).take (len * sz) ++ (flat ys).map .d) (fun _ => false)) else none := by
  unfold apF
  by_cases h : szOk q.1 ys = true
  · simp [h]
  · simp [h]
def apA (P : Program) (tr : List Nat) (S : PS) (d s t tx : Nat) (x y : PV) (own : Bool) (q : Nat × Nat × DV × Bool) : Option PS :=
  (apY (decide (d + 30000 ∈ tr)) (P.underlying tx) q.2.2.1 q.2.2.2 S y).bind (apF S d s q (decide (d + 10000 ∈ tr)) (agE P t) x own)
@[simp] theorem apA_mk {d s t tx : Nat} {x y : PV} {own : Bool} {sz b : Nat} {z : DV} {o : Bool} : apA P tr S d s t tx x y own (sz, b, z, o) = (apY (decide (d + 30000 ∈ tr)) (P.underlying tx) z o S y).bind (apF S d s (sz, b, z, o) (decide (d + 10000 ∈ tr)) (agE P t) x own) := rfl
theorem app_key {d s t tx : Nat} {x : Operand} {op : Op} : (appEff P tr S { dst := some d, op := op, type := 0, pos := "", after := #[], guard := none } [.tmp s, x] [t, tx]).map (fun E => E.apply S) = (apT P t).bind (apA P tr S d s t tx (S.t s) (S.ev x) (S.own (.t s 0))) := by
  simp only [appEff, isBx, isRd, apT, apEl]
  cases he : elT P t with
  | none => rfl
  | some e =>
    simp only
    cases hb : bytT P e with
    | none => rfl
    | some b =>
      cases hz : zeroT P e with
      | none => rfl
      | some z =>
        simp only
        by_cases h1 : z.cells.size = szT P e ∧ 0 < szT P e ∧ 0 < b
        · rw [if_pos h1, if_pos h1]
          simp only [Option.bind_some, apA_mk]
          have hap : appSrc P (tr.contains (d + 30000)) S e x tx = apY (decide (d + 30000 ∈ tr)) (P.underlying tx) (ofConstD z) (z.oneCell') S (S.ev x) := by
            have hcn : tr.contains (d + 30000) = decide (d + 30000 ∈ tr) := by
              rw [Bool.eq_iff_iff]; simp
            rw [hcn]
            unfold appSrc apY apS
            rw [hz]
            cases S.ev x with
            | d y => cases y <;> first | rfl | (cases P.underlying tx with
                | none => rfl
                | some u => cases u <;> rfl)
            | bsl n g len sz ag => cases P.underlying tx with
                | none => rfl
                | some u => cases u <;> rfl
            | view n g lo len sz ag ti => cases P.underlying tx with
                | none => rfl
                | some u => cases u <;> rfl
            | _ => rfl
          rw [hap]
          cases apY (decide (d + 30000 ∈ tr)) (P.underlying tx) (ofConstD z) (z.oneCell') S (S.ev x) with
          | none => rfl
          | some ys =>
            simp only [Option.bind_some, apF, List.contains_iff_mem, decide_eq_true_eq, agE, he]
            by_cases h2 : szOk (szT P e) ys = true
            · simp only [if_pos h2]
              cases S.t s with
              | d xv =>
                cases xv with
                | slice xs =>
                  simp only
                  by_cases h3 : d + 10000 ∈ tr
                  · simp only [if_pos h3]
                    cases hag : aggT P e with
                    | none =>
                      rw [if_neg (by simp)]
                      rfl
                    | some ag =>
                      simp only [Option.some.injEq, Option.isSome_some, and_true]
                      by_cases h4 : S.own (.t s 0) = true ∧ xs = [] ∧ ys.length * b ≤ 140737488355328 ∧ (ag = false → szT P e = 1)
                      · rw [if_pos h4, if_pos h4]
                        have : ((some ag : Option Bool) == some true) = ag := by cases ag <;> rfl
                        rw [this]
                        rfl
                      · rw [if_neg h4, if_neg h4]
                        rfl
                  · simp only [if_neg h3]
                    by_cases h4 : S.own (.t s 0) = true ∧ szOk (szT P e) xs = true ∧ (xs.length + ys.length) * b ≤ 140737488355328
                    · rw [if_pos h4, if_pos h4]; rfl
                    · rw [if_neg h4, if_neg h4]; rfl
                | _ => rfl
              | bsl n g len sz ag =>
                simp only
                by_cases h3 : d + 10000 ∈ tr
                · simp only [h3, Option.isSome_some, and_true, true_and]
                  by_cases h4 : g = S.gen n ∧ sz = szT P e ∧ (S.box n).length = len * sz ∧ (len + ys.length) * b ≤ 140737488355328
                  · rw [if_pos h4, if_pos h4]; rfl
                  · rw [if_neg h4, if_neg h4]; rfl
                · simp only [h3, and_false, if_false]
                  rfl
              | view n g lo len sz ag ti =>
                simp only
                by_cases h3 : d + 10000 ∈ tr
                · simp only [h3, and_true]
                  by_cases h4 : ti = true ∧ g = S.gen n ∧ sz = szT P e ∧ (lo + len) * sz ≤ (S.box n).length ∧ 0 < ys.length ∧ (len + ys.length) * b ≤ 140737488355328
                  · rw [if_pos h4, if_pos h4]; rfl
                  · rw [if_neg h4, if_neg h4]; rfl
                · simp only [h3, and_false, if_false]
                  rfl
              | _ => rfl
            · simp only [if_neg h2]
              rfl
        · rw [if_neg h1, if_neg h1]
          rfl
/-- The cells of what is put behind, told as one's own there. -/
def giveS (S : PS) (d : Nat) (y : PV) (S' : PS) : Option PS :=
  match y, S'.t d with
  | .bsl m g len sz _, .bsl u _ _ _ _ => if (S.box m).length = len * sz ∧ g = S.gen m ∧ m ≠ u ∧ (S.box m).length ≤ (S'.box u).length then some (S'.give u m ((S'.box u).length - (S.box m).length)) else none
  | _, _ => none
def giveT (S : PS) (m g len sz : Nat) (r : PV) (S' : PS) : Option PS :=
  match r with
  | .bsl u _ _ _ _ => if (S.box m).length = len * sz ∧ g = S.gen m ∧ m ≠ u ∧ (S.box m).length ≤ (S'.box u).length then some (S'.give u m ((S'.box u).length - (S.box m).length)) else none
  | _ => none
@[simp] theorem giveS_b {d m g len sz : Nat} {ag : Bool} {S' : PS} : giveS S d (.bsl m g len sz ag) S' = giveT S m g len sz (S'.t d) S' := by unfold giveS giveT; cases S'.t d <;> rfl
@[simp] theorem giveT_b {m g len sz u a b c : Nat} {e : Bool} {S' : PS} : giveT S m g len sz (.bsl u a b c e) S' = if (S.box m).length = len * sz ∧ g = S.gen m ∧ m ≠ u ∧ (S.box m).length ≤ (S'.box u).length then some (S'.give u m ((S'.box u).length - (S.box m).length)) else none := rfl
theorem app_bx {d s t tx : Nat} {x : Operand} {op : Op} {E : Eff} (hbx : d + 10000 ∈ tr) (he : appEff P tr S { dst := some d, op := op, type := 0, pos := "", after := #[], guard := none } [.tmp s, x] [t, tx] = some E) :
    E.dst = some d ∧ ∃ u, E.bx = [u] ∧ (∃ g l z a, E.r = .bsl u.n g l z a) ∧ ∀ n k, E.clr (.b n k) = false := by
  have hc : tr.contains (d + 10000) = true := by simpa using hbx
  simp only [appEff, isBx, hc, if_true] at he
  repeat' (split at he)
  all_goals first
    | (cases he; exact ⟨rfl, _, rfl, ⟨_, _, _, _, rfl⟩, fun _ _ => rfl⟩)
    | (cases he; done)
@[simp] theorem o_app {d s t tx : Nat} {x : Operand} : ow P tr (some d) (.call ⟨.builtin .append, ⟨[.tmp s, x]⟩, ⟨[t, tx]⟩⟩) S K =
    if d + 80000 ∈ tr then (if d + 30000 ∈ tr ∧ d + 10000 ∈ tr then onSt (((apT P t).bind (apA P tr S d s t tx (S.t s) (S.ev x) (S.own (.t s 0)))).bind (giveS S d (S.ev x))) K else False)
    else onSt ((apT P t).bind (apA P tr S d s t tx (S.t s) (S.ev x) (S.own (.t s 0)))) K := by
  rw [ow_plain (by simp)]
  simp only [effF, csOk, csOp, fpCk, fpOf, Bool.and_self, if_true, effF0, dst1, if_true, isOw, List.contains_iff_mem]
  by_cases how : d + 80000 ∈ tr
  · simp only [if_pos how, isBx, isRd, List.contains_iff_mem]
    by_cases hrb : d + 30000 ∈ tr ∧ d + 10000 ∈ tr
    · simp only [if_pos hrb]
      rw [← app_key (op := .call ⟨.builtin .append, ⟨[.tmp s, x]⟩, ⟨[t, tx]⟩⟩)]
      cases he : appEff P tr S { dst := some d, op := .call ⟨.builtin .append, ⟨[.tmp s, x]⟩, ⟨[t, tx]⟩⟩, type := 0, pos := "", after := #[], guard := none } [.tmp s, x] [t, tx] with
      | none =>
        simp only [Option.bind_none, Option.map_none]
        cases srcBsl S [.tmp s, x] <;> rfl
      | some E =>
        obtain ⟨hd, u, hb, ⟨g, l, z, a, hr⟩, hclr⟩ := app_bx hrb.2 he
        have e1 : (E.apply S).t d = .bsl u.n g l z a := by
          simp only [Eff.apply, hd, hr, upd_same]
        have e2 : (E.apply S).box u.n = u.c := by
          simp only [Eff.apply, hb, findU_one, if_true]
        simp only [Option.map_some, Option.bind_some, giveS, e1, e2, srcBsl]
        cases hx : S.ev x with
        | bsl m g' len sz ag =>
          simp only
          by_cases h1 : (S.box m).length = len * sz ∧ g' = S.gen m
          · rw [if_pos h1]
            simp only [giveOwn, hb]
            by_cases h2 : m ≠ u.n ∧ (S.box m).length ≤ u.c.length
            · rw [if_pos h2, if_pos ⟨h1.1, h1.2, h2.1, by rw [e2]; exact h2.2⟩, e2]
              simp only [Option.map_some, onSt_some]
              congr 1
              have e : ¬ u.n = m := fun e => h2.1 e.symm
              simp only [Eff.apply, PS.give, PS.mk.injEq, true_and, and_true]
              refine ⟨?_, ?_, ?_⟩
              · funext n
                simp only [findU, hb]
                by_cases e1 : u.n = n
                · simp [e1]
                · by_cases e2 : m = n
                  · subst e2; simp [e1]
                  · simp [e1, e2]
              · funext n
                simp only [findU, hb]
                by_cases e1 : u.n = n
                · simp [e1]
                · by_cases e2 : m = n
                  · subst e2; simp [e1]
                  · simp [e1, e2]
              · funext l
                cases l with
                | t i j => rfl
                | b n k =>
                  simp only [findU, hb, hclr, Bool.not_false, Bool.and_true]
                  by_cases e1 : u.n = n
                  · subst e1; simp [e]
                  · have e1' : ¬ n = u.n := fun e => e1 e.symm
                    by_cases e2 : m = n
                    · subst e2; simp [e1, e1']
                    · have e2' : ¬ n = m := fun e => e2 e.symm
                      simp [e1, e1', e2, e2']
            · rw [if_neg h2, if_neg (fun h => h2 ⟨h.2.2.1, by rw [← e2]; exact h.2.2.2⟩)]
              rfl
          · rw [if_neg h1, if_neg (fun h => h1 ⟨h.1, h.2.1⟩)]
            rfl
        | _ => rfl
    · simp only [if_neg hrb]
      cases srcBsl S [.tmp s, x] <;> simp
  · simp only [if_neg how]
    rw [← app_key (op := .call ⟨.builtin .append, ⟨[.tmp s, x]⟩, ⟨[t, tx]⟩⟩)]
def mkV (q : Option (Nat × Nat × DV × Bool)) (x y : PV) : Option (Nat × DV) :=
  match q, x, y with
  | some (sz, b, z, o), .d (.int _ n), .d (.int _ m) => if n = m ∧ 0 ≤ n ∧ n ≤ 9223372036854775807 ∧ n * b ≤ 281474976710656 ∧ sz = 1 ∧ o = true then some (n.toNat, z) else none
  | _, _, _ => none
@[simp] theorem mkV_n {sz b : Nat} {z : DV} {o : Bool} {k k' : IntKind} {n m : Int} : mkV (some (sz, b, z, o)) (.d (.int k n)) (.d (.int k' m)) = if n = m ∧ 0 ≤ n ∧ n ≤ 9223372036854775807 ∧ n * b ≤ 281474976710656 ∧ sz = 1 ∧ o = true then some (n.toNat, z) else none := rfl
def mkS (S : PS) (d : Nat) (q : Nat × DV) : PS := S.nb d (.bsl (S.fo + d) (S.gen (S.fo + d) + 1) q.1 1 false) (S.gen (S.fo + d) + 1) (List.replicate q.1 (.d q.2)) (fun _ => false)
@[simp] theorem mkS_mk {d n : Nat} {z : DV} : mkS S d (n, z) = S.nb d (.bsl (S.fo + d) (S.gen (S.fo + d) + 1) n 1 false) (S.gen (S.fo + d) + 1) (List.replicate n (.d z)) (fun _ => false) := rfl
theorem o_mk {d t : Nat} {l c : Operand} {n : Nat} {z : DV} (hf : ¬ d + 20000 ∈ tr) (h : mkV (apT P t) (S.ev l) (S.ev c) = some (n, z)) :
    ow P tr (some d) (.makeSlice t l c) S K = K (mkS S d (n, z)) := by
  rw [ow_plain (by simp)]
  simp only [effF, csOk, csOp, fpCk, fpOf, Bool.and_self, if_true, effF0, dst1, if_true]
  unfold apT at h
  cases he : elT P t with
  | none => rw [he] at h; simp [mkV] at h
  | some e =>
    rw [he] at h
    simp only at h
    cases hb : bytT P e with
    | none => rw [hb] at h; simp [mkV] at h
    | some b =>
      cases hz : zeroT P e with
      | none => rw [hb, hz] at h; simp [mkV] at h
      | some z' =>
        rw [hb, hz] at h
        simp only at h
        split at h
        · unfold mkV at h
          split at h
          · rename_i k n' k' m hq hl hc
            cases hq
            split at h
            · rename_i hh
              cases h
              simp only [hl, hc, hb, hz, if_pos hh, isFz, List.contains_iff_mem, if_neg hf]
              rfl
            · cases h
          · cases h
        · simp [mkV] at h
/-- A new slice that nobody writes. -/
theorem o_mkF {d t : Nat} {l c : Operand} {n : Nat} {z : DV} (hf : d + 20000 ∈ tr) (h : mkV (apT P t) (S.ev l) (S.ev c) = some (n, z)) :
    ow P tr (some d) (.makeSlice t l c) S K = K (S.q d (.d (.slice (List.replicate n z))) true) := by
  rw [ow_plain (by simp)]
  simp only [effF, csOk, csOp, fpCk, fpOf, Bool.and_self, if_true, effF0, dst1, if_true]
  unfold apT at h
  cases he : elT P t with
  | none => rw [he] at h; simp [mkV] at h
  | some e =>
    rw [he] at h
    simp only at h
    cases hb : bytT P e with
    | none => rw [hb] at h; simp [mkV] at h
    | some b =>
      cases hz : zeroT P e with
      | none => rw [hb, hz] at h; simp [mkV] at h
      | some z' =>
        rw [hb, hz] at h
        simp only at h
        split at h
        · unfold mkV at h
          split at h
          · rename_i k n' k' m hq hl hc
            cases hq
            split at h
            · rename_i hh
              cases h
              simp only [hl, hc, hb, hz, if_pos hh, isFz, List.contains_iff_mem, if_pos hf]
              rfl
            · cases h
          · cases h
        · simp [mkV] at h

/-! ### calls -/
theorem o_call {d : Nat} {f : FuncId} {caps : List PV} {x : Operand} {args : List Operand} {ts : Array TypeId} {r : PV} {ro : Nat → Bool} {as : List PV} (hx : fnAt (S.ev x) args.isEmpty = some (f, caps)) (ha : args.map S.ev ++ caps = as) (hH : Holds P f as r ro) (hf : as.all ptrFree = true) (hc : tr.contains (d + 40000) = false)
    (hK : K (S.cl d r ro)) : ow P tr (some d) (.call ⟨.value x, ⟨args⟩, ts⟩) S K := by
  subst ha
  unfold ow owp
  refine ⟨by simp [dstOk], ?_⟩
  rw [hx]
  simp only [isCb, hc]
  exact ⟨hf, r, ro, hH, hK⟩
/-- The boxes are at least as they are asked for. -/
def preOk (S : PS) (pre : List Upd) : Prop := ∀ u ∈ pre, 0 < u.g ∧ S.gen u.n = u.g ∧ S.box u.n = u.c ∧ ∀ k, u.o k = true → S.own (.b u.n k) = true
@[simp] theorem preOk_nil : preOk S [] := by simp [preOk]
@[simp] theorem preOk_cons {u : Upd} {l : List Upd} : preOk S (u :: l) ↔ (0 < u.g ∧ S.gen u.n = u.g ∧ S.box u.n = u.c ∧ ∀ k, u.o k = true → S.own (.b u.n k) = true) ∧ preOk S l := by
  simp [preOk]
theorem Meets.weak {fo : Nat} {gl : Nat → Nat} {f : FuncId} {args : List PV} {pre : List Upd} {r : PV} {ro : Nat → Bool} {post : List Upd} (hp : preOk S pre) (h : Meets P fo gl f args pre r ro post) :
    Meets P fo gl f args ((pre.map (·.n)).map (snap S)) r ro post := by
  obtain ⟨h1, h2, h3, h4, h5⟩ := h
  refine ⟨h1, h2, h3, fun u hu => ?_, fun vs w fr T β hl hgo hS => ?_⟩
  · obtain ⟨n, hn, rfl⟩ := List.mem_map.1 hu
    obtain ⟨v, hv, rfl⟩ := List.mem_map.1 hn
    exact h4 v hv
  · have hf : ∀ n, findU pre n = none ∧ n ∉ pre.map (·.n) ∨ ∃ u, findU pre n = some u ∧ n ∈ pre.map (·.n) ∧ S.gen n = u.g ∧ S.box n = u.c ∧ ∀ k, u.o k = true → S.own (.b n k) = true := by
      intro n
      cases hx : findU pre n with
      | none => exact .inl ⟨rfl, findU_none_of hx⟩
      | some u =>
        obtain ⟨hm, e⟩ := findU_mem_of hx
        obtain ⟨_, q2, q3, q4⟩ := hp u hm
        subst e
        exact .inr ⟨u, rfl, List.mem_map.2 ⟨u, hm, rfl⟩, q2, q3, q4⟩
    have hc := hS.clear fun l => !(PS.startB fo gl args pre).own l
    have e : (PS.startB fo gl args ((pre.map (·.n)).map (snap S))).clear (fun l => !(PS.startB fo gl args pre).own l) = PS.startB fo gl args pre := by
      unfold PS.startB PS.clear
      congr 1
      · funext n
        simp only [findU_snap]
        rcases hf n with ⟨q1, q2⟩ | ⟨u, q1, q2, q3, q4, q5⟩
        · simp only [q1, if_neg q2]
        · simp only [q1, if_pos q2, snap, q4]
      · funext n
        simp only [findU_snap]
        rcases hf n with ⟨q1, q2⟩ | ⟨u, q1, q2, q3, q4, q5⟩
        · simp only [q1, if_neg q2]
        · simp only [q1, if_pos q2, snap, q3]
      · funext l
        cases l with
        | t i j => simp
        | b n k =>
          simp only [findU_snap]
          rcases hf n with ⟨q1, q2⟩ | ⟨u, q1, q2, q3, q4, q5⟩
          · simp [q1]
          · simp only [q1, if_pos q2, snap]
            cases hk : u.o k with
            | false => simp
            | true => simp [q5 k hk]
    rw [e] at hc
    exact h5 vs w fr T β hl hgo hc
def isOutD (tr : List Nat) (d : Option Nat) : Bool := match d with | some d => tr.contains (d + 100000) | none => tr.contains 100000
theorem o_cb (fo : Nat) {d : Option Nat} {f : FuncId} {caps : List PV} {x : Operand} {args : List Operand} {ts : Array TypeId} {r : PV} {ro : Nat → Bool} {as : List PV} {pre post : List Upd} (hx : fnAt (S.ev x) args.isEmpty = some (f, caps)) (ha : args.map S.ev ++ caps = as)
    (hH : Meets P fo (fun n => S.gen n + 1) f as pre r ro post) (hc : (match d with | some d => tr.contains (d + 40000) | none => tr.contains 40000) = true) (hp : preOk S pre)
    (hK : K (S.cb d r ro post)) (ho : isOutD tr d = false ∨ ∀ u ∈ post, nws tr S.fo u.n = true := by exact Or.inl rfl) : ow P tr d (.call ⟨.value x, ⟨args⟩, ts⟩) S K := by
  subst ha
  unfold ow owp
  refine ⟨by cases d <;> simp [dstOk], ?_⟩
  rw [hx]
  have hcb : isCb tr { dst := d, op := .call ⟨.value x, ⟨args⟩, ts⟩, type := 0, pos := "", after := #[], guard := none } = true := by
    unfold isCb
    cases d <;> exact hc
  simp only [hcb, if_true]
  refine ⟨pre.map (·.n), fo, r, ro, post, fun n hn => ?_, Meets.weak hp hH, fun hq => ?_, hK⟩
  rotate_left
  · rcases ho with h | h
    · unfold isOut at hq
      unfold isOutD at h
      cases d <;> simp only at hq h <;> rw [h] at hq <;> cases hq
    · exact h
  obtain ⟨u, hu, rfl⟩ := List.mem_map.1 hn
  obtain ⟨q1, q2, _⟩ := hp u hu
  rw [q2]
  exact q1
/-- A call that was handed boxes, of which names and turns are not told. -/
theorem o_cbE {ι : Type} {C : ι → Prop} (fo : Nat) {d : Option Nat} {f : FuncId} {caps : List PV} {x : Operand} {args : List Operand} {ts : Array TypeId} {r : ι → PV} {ro : Nat → Bool} {as : List PV} {pre : List Upd} {post : ι → List Upd} (hx : fnAt (S.ev x) args.isEmpty = some (f, caps)) (ha : args.map S.ev ++ caps = as)
    (hH : ∃ i, C i ∧ Meets P fo (fun n => S.gen n + 1) f as pre (r i) ro (post i)) (hc : (match d with | some d => tr.contains (d + 40000) | none => tr.contains 40000) = true) (hp : preOk S pre)
    (hK : ∀ i, C i → K (S.cb d (r i) ro (post i))) (ho : isOutD tr d = false := by exact rfl) : ow P tr d (.call ⟨.value x, ⟨args⟩, ts⟩) S K := by
  obtain ⟨i, hC, hM⟩ := hH
  exact o_cb fo hx ha hM hc hp (hK i hC) (.inl ho)
end

end BoEng

/- The rules for values. -/
namespace BoEng
open Go Go.RowKit

/-- The datum at a place. -/
def nth {α : Type} [Inhabited α] (l : List α) (i : Int) : α := l.getD i.toNat default

/-! reckoning with bits, told in short -/
def andI (k : IntKind) (a b : Int) : Int := k.wrap (BitVec.ofInt k.bits a &&& BitVec.ofInt k.bits b).toNat
def orI (k : IntKind) (a b : Int) : Int := k.wrap (BitVec.ofInt k.bits a ||| BitVec.ofInt k.bits b).toNat
def xorI (k : IntKind) (a b : Int) : Int := k.wrap (BitVec.ofInt k.bits a ^^^ BitVec.ofInt k.bits b).toNat
def andNotI (k : IntKind) (a b : Int) : Int := k.wrap (BitVec.ofInt k.bits a &&& ~~~ BitVec.ofInt k.bits b).toNat
def notI (k : IntKind) (a : Int) : Int := k.wrap (BitVec.ofInt k.bits (if k.signed then -1 else k.max) ^^^ BitVec.ofInt k.bits a).toNat
def shlI (k : IntKind) (a b : Int) : Int := k.wrap (a * 2 ^ (min b.toNat k.bits))
def shrI (k : IntKind) (a b : Int) : Int := a.fdiv (2 ^ (min b.toNat k.bits))

section
variable {P : Program} {tr : List Nat} {S : PS} {K : PS → Prop} {Q : PS → Prop} {l : List CO}

def pickV (c a b : PV) : Option (PV × Bool) := match c with | .d (.bool t) => some (if t then a else b, false) | _ => none
@[simp] theorem qv_pick {c a b : Operand} : qv P S (.pick c a b) = pickV (S.ev c) (S.ev a) (S.ev b) := rfl
@[simp] theorem pickV_t {a b : PV} : pickV (.d (.bool true)) a b = some (a, false) := rfl
@[simp] theorem pickV_f {a b : PV} : pickV (.d (.bool false)) a b = some (b, false) := rfl
theorem pickV_b {t : Bool} {a b : PV} : pickV (.d (.bool t)) a b = some (if t then a else b, false) := rfl
def nilV (x : PV) : Option (PV × Bool) := match x with | .ptr n g o => some (.ptr n g o, false) | .cptr cs => some (.cptr cs, false) | _ => none
@[simp] theorem qv_nil {x : Operand} : qv P S (.nilCheck x) = nilV (S.ev x) := rfl
@[simp] theorem nilV_ptr {n g o : Nat} : nilV (.ptr n g o) = some (.ptr n g o, false) := rfl
@[simp] theorem nilV_cptr {cs : List DV} : nilV (.cptr cs) = some (.cptr cs, false) := rfl
def q1 (r : Option PV) : Option (PV × Bool) := r.map fun r => (r, false)
@[simp] theorem q1_some {r : PV} : q1 (some r) = some (r, false) := rfl
@[simp] theorem qv_bin {op : BinOp} {t t' : TypeId} {x y : Operand} : qv P S (.binOp op t x y t') = q1 (binV P S op t x y) := rfl
@[simp] theorem binV_t {op : BinOp} {t : TypeId} {x : Operand} {s : Nat} : binV P S op t x (.tmp s) = pbin P op t (S.ev x) (S.t s) := rfl
@[simp] theorem binV_ci {op : BinOp} {t : TypeId} {x : Operand} {k : IntKind} {n : Int} : binV P S op t x (.const (.int k n)) = pbin P op t (S.ev x) (.d (.int k n)) := rfl
@[simp] theorem binV_cb {op : BinOp} {t : TypeId} {x : Operand} {b : Bool} : binV P S op t x (.const (.bool b)) = pbin P op t (S.ev x) (.d (.bool b)) := rfl
@[simp] theorem binV_cs {op : BinOp} {t : TypeId} {x : Operand} {b : ByteArray} : binV P S op t x (.const (.string b)) = pbin P op t (S.ev x) (ofConst (.string b)) := rfl
@[simp] theorem binV_cp {op : BinOp} {t : TypeId} {x : Operand} {b : Option Addr} : binV P S op t x (.const (.pointer b)) = pbin P op t (S.ev x) (ofConst (.pointer b)) := rfl
@[simp] theorem binV_cf {op : BinOp} {t : TypeId} {x : Operand} : binV P S op t x (.const .nilFunc) = pbin P op t (S.ev x) (ofConst .nilFunc) := rfl
@[simp] theorem binV_cl {op : BinOp} {t : TypeId} {x : Operand} {b : Option Addr} {n c : Nat} : binV P S op t x (.const (.slice b n c)) = pbin P op t (S.ev x) (ofConst (.slice b n c)) := rfl
@[simp] theorem binV_ca {op : BinOp} {t : TypeId} {x : Operand} {vs : Array Value} : binV P S op t x (.const (.agg vs)) = pbin P op t (S.ev x) (ofConst (.agg vs)) := rfl
@[simp] theorem binV_ni {op : BinOp} {t : TypeId} {x : Operand} : binV P S op t x (.const .nilIface) = ifN (P.underlying t) op (S.ev x) := rfl
@[simp] theorem ifN_ie {m : Array (String × TypeId)} {t : TypeId} {v : Value} : ifN (some (.interface m)) .eql (.d (.opq (.iface t v))) = some (.d (.bool false)) := rfl
@[simp] theorem ifN_in {m : Array (String × TypeId)} {t : TypeId} {v : Value} : ifN (some (.interface m)) .neq (.d (.opq (.iface t v))) = some (.d (.bool true)) := rfl
@[simp] theorem ifN_ne {m : Array (String × TypeId)} : ifN (some (.interface m)) .eql (.d (.opq .nilIface)) = some (.d (.bool true)) := rfl
@[simp] theorem ifN_nn {m : Array (String × TypeId)} : ifN (some (.interface m)) .neq (.d (.opq .nilIface)) = some (.d (.bool false)) := rfl
@[simp] theorem qv_makeIf {t : TypeId} {x : Operand} : qv P S (.makeInterface t x) = if isIfT (P.underlying t) = false then mkI t (S.ev x) else none := rfl
@[simp] theorem isIfT_st {fs : Array Go.Field} : isIfT (some (.struct fs)) = false := rfl
@[simp] theorem isIfT_p {t : TypeId} : isIfT (some (.pointer t)) = false := rfl
@[simp] theorem ofConst_ni : ofConst .nilIface = .d (.opq .nilIface) := rfl
@[simp] theorem isNilV_ni : isNilV .nilIface = false := rfl
@[simp] theorem mkI_d {t : TypeId} {x : DV} : mkI t (.d x) = (valD x).map fun u => (.d (.opq (.iface t u)), false) := rfl
@[simp] theorem valD_i {k : IntKind} {n : Int} : valD (.int k n) = some (.int k n) := by simp [valD]
@[simp] theorem valD_s {s : List UInt8} : valD (.str s) = some (.string ⟨s.toArray⟩) := by simp [valD]
@[simp] theorem valD_o {v : Value} : valD (.opq v) = some v := by simp [valD]
@[simp] theorem valD_a {cs : List DV} : valD (.agg cs) = (valL cs).map fun vs => .agg vs.toArray := by simp [valD]
@[simp] theorem valL_n : valL [] = some [] := by simp [valL]
@[simp] theorem valL_c {c : DV} {r : List DV} : valL (c :: r) = (valD c).bind fun v => (valL r).map fun vs => v :: vs := by simp [valL]
@[simp] theorem qv_un {op : UnOp} {t : TypeId} {x : Operand} : qv P S (.unOp op t x) = q1 (pun op (S.ev x)) := rfl
@[simp] theorem pun_not {b : Bool} : pun .not (.d (.bool b)) = some (.d (.bool (!b))) := rfl
@[simp] theorem pun_neg {k : IntKind} {n : Int} : pun .neg (.d (.int k n)) = some (.d (.int k (k.wrap (0 - n)))) := rfl
@[simp] theorem pun_xor {k : IntKind} {n : Int} : pun .xor (.d (.int k n)) = some (.d (.int k (notI k n))) := rfl
@[simp] theorem pbin_add {t : TypeId} {k : IntKind} {a b : Int} : pbin P .add t (.d (.int k a)) (.d (.int k b)) = some (.d (.int k (k.wrap (a + b)))) := by simp [pbin, isShift, cmpI, arI]
@[simp] theorem pbin_sub {t : TypeId} {k : IntKind} {a b : Int} : pbin P .sub t (.d (.int k a)) (.d (.int k b)) = some (.d (.int k (k.wrap (a - b)))) := by simp [pbin, isShift, cmpI, arI]
@[simp] theorem pbin_mul {t : TypeId} {k : IntKind} {a b : Int} : pbin P .mul t (.d (.int k a)) (.d (.int k b)) = some (.d (.int k (k.wrap (a * b)))) := by simp [pbin, isShift, cmpI, arI]
@[simp] theorem pbin_quo {t : TypeId} {k : IntKind} {a b : Int} (h : b ≠ 0) : pbin P .quo t (.d (.int k a)) (.d (.int k b)) = some (.d (.int k (k.wrap (a.tdiv b)))) := by simp [pbin, isShift, cmpI, arI, h]
@[simp] theorem pbin_rem {t : TypeId} {k : IntKind} {a b : Int} (h : b ≠ 0) : pbin P .rem t (.d (.int k a)) (.d (.int k b)) = some (.d (.int k (a.tmod b))) := by simp [pbin, isShift, cmpI, arI, h]
@[simp] theorem pbin_and {t : TypeId} {k : IntKind} {a b : Int} : pbin P .and t (.d (.int k a)) (.d (.int k b)) = some (.d (.int k (andI k a b))) := by simp [pbin, isShift, cmpI, arI, andI]
@[simp] theorem pbin_or {t : TypeId} {k : IntKind} {a b : Int} : pbin P .or t (.d (.int k a)) (.d (.int k b)) = some (.d (.int k (orI k a b))) := by simp [pbin, isShift, cmpI, arI, orI]
@[simp] theorem pbin_xor {t : TypeId} {k : IntKind} {a b : Int} : pbin P .xor t (.d (.int k a)) (.d (.int k b)) = some (.d (.int k (xorI k a b))) := by simp [pbin, isShift, cmpI, arI, xorI]
@[simp] theorem pbin_andNot {t : TypeId} {k : IntKind} {a b : Int} : pbin P .andNot t (.d (.int k a)) (.d (.int k b)) = some (.d (.int k (andNotI k a b))) := by simp [pbin, isShift, cmpI, arI, andNotI]
@[simp] theorem pbin_shl {t : TypeId} {k k' : IntKind} {a b : Int} (h : 0 ≤ b) : pbin P .shl t (.d (.int k a)) (.d (.int k' b)) = some (.d (.int k (shlI k a b))) := by simp [pbin, isShift, shI, shlI, show ¬ b < 0 by omega]
@[simp] theorem pbin_shr {t : TypeId} {k k' : IntKind} {a b : Int} (h : 0 ≤ b) : pbin P .shr t (.d (.int k a)) (.d (.int k' b)) = some (.d (.int k (shrI k a b))) := by simp [pbin, isShift, shI, shrI, show ¬ b < 0 by omega]
@[simp] theorem pbin_eql {t : TypeId} {k : IntKind} {a b : Int} : pbin P .eql t (.d (.int k a)) (.d (.int k b)) = some (.d (.bool (decide (a = b)))) := by simp [pbin, isShift, cmpI]
@[simp] theorem pbin_neq {t : TypeId} {k : IntKind} {a b : Int} : pbin P .neq t (.d (.int k a)) (.d (.int k b)) = some (.d (.bool (!decide (a = b)))) := by simp [pbin, isShift, cmpI]
@[simp] theorem pbin_lss {t : TypeId} {k : IntKind} {a b : Int} : pbin P .lss t (.d (.int k a)) (.d (.int k b)) = some (.d (.bool (decide (a < b)))) := by simp [pbin, isShift, cmpI]
@[simp] theorem pbin_leq {t : TypeId} {k : IntKind} {a b : Int} : pbin P .leq t (.d (.int k a)) (.d (.int k b)) = some (.d (.bool (decide (a ≤ b)))) := by simp [pbin, isShift, cmpI]
@[simp] theorem pbin_gtr {t : TypeId} {k : IntKind} {a b : Int} : pbin P .gtr t (.d (.int k a)) (.d (.int k b)) = some (.d (.bool (decide (b < a)))) := by simp [pbin, isShift, cmpI]
@[simp] theorem pbin_geq {t : TypeId} {k : IntKind} {a b : Int} : pbin P .geq t (.d (.int k a)) (.d (.int k b)) = some (.d (.bool (decide (b ≤ a)))) := by simp [pbin, isShift, cmpI]
theorem pbin_aeql {t : TypeId} {fs : Array Field} {a b : List DV} (h : P.underlying t = some (.struct fs)) (h2 : eqOk P t = true) : pbin P .eql t (.d (.agg a)) (.d (.agg b)) = (eqF P a b fs.toList).map fun r => .d (.bool r) := by simp [pbin, eqA, h, h2]
theorem pbin_aneq {t : TypeId} {fs : Array Field} {a b : List DV} (h : P.underlying t = some (.struct fs)) (h2 : eqOk P t = true) : pbin P .neq t (.d (.agg a)) (.d (.agg b)) = (eqF P a b fs.toList).map fun r => .d (.bool (!r)) := by simp [pbin, eqA, h, h2]
@[simp] theorem pbin_seql {t : TypeId} {a b : List UInt8} : pbin P .eql t (.d (.str a)) (.d (.str b)) = some (.d (.bool (decide (a = b)))) := by simp [pbin, cmpS]
@[simp] theorem pbin_sneq {t : TypeId} {a b : List UInt8} : pbin P .neq t (.d (.str a)) (.d (.str b)) = some (.d (.bool (!decide (a = b)))) := by simp [pbin, cmpS]
@[simp] theorem pbin_slss {t : TypeId} {a b : List UInt8} : pbin P .lss t (.d (.str a)) (.d (.str b)) = some (.d (.bool (strLt a b))) := by simp [pbin, cmpS]
@[simp] theorem pbin_sleq {t : TypeId} {a b : List UInt8} : pbin P .leq t (.d (.str a)) (.d (.str b)) = some (.d (.bool (strLt a b || decide (a = b)))) := by simp [pbin, cmpS]
@[simp] theorem pbin_sgtr {t : TypeId} {a b : List UInt8} : pbin P .gtr t (.d (.str a)) (.d (.str b)) = some (.d (.bool (!(strLt a b || decide (a = b))))) := by simp [pbin, cmpS]
@[simp] theorem pbin_sgeq {t : TypeId} {a b : List UInt8} : pbin P .geq t (.d (.str a)) (.d (.str b)) = some (.d (.bool (!strLt a b))) := by simp [pbin, cmpS]
@[simp] theorem pbin_sadd {t : TypeId} {a b : List UInt8} (h : a.length + b.length ≤ 9223372036854775807) : pbin P .add t (.d (.str a)) (.d (.str b)) = some (.d (.str (a ++ b))) := by simp [pbin, h]
@[simp] theorem pbin_beql {t : TypeId} {a b : Bool} (h : P.underlying t = some .bool) : pbin P .eql t (.d (.bool a)) (.d (.bool b)) = some (.d (.bool (a == b))) := by simp [pbin, h, eqB]
@[simp] theorem pbin_bneq {t : TypeId} {a b : Bool} (h : P.underlying t = some .bool) : pbin P .neq t (.d (.bool a)) (.d (.bool b)) = some (.d (.bool (!(a == b)))) := by simp [pbin, h, eqB]
def isPtrT (u : Option TypeDesc) : Bool := match u with | some (.pointer _) => true | _ => false
def isFnT (u : Option TypeDesc) : Bool := match u with | some (.func ..) => true | _ => false
@[simp] theorem isPtrT_p {e : TypeId} : isPtrT (some (.pointer e)) = true := rfl
theorem nilCmp_p {u : Option TypeDesc} {n g o : Nat} (h : isPtrT u = true) : nilCmp u (.ptr n g o) (.d (.opq (.pointer none))) = some false := by unfold isPtrT at h; split at h <;> first | rfl | cases h
theorem nilCmp_c {u : Option TypeDesc} {c : List DV} (h : isPtrT u = true) : nilCmp u (.cptr c) (.d (.opq (.pointer none))) = some false := by unfold isPtrT at h; split at h <;> first | rfl | cases h
theorem nilCmp_n {u : Option TypeDesc} (h : isPtrT u = true) : nilCmp u (.d (.opq (.pointer none))) (.d (.opq (.pointer none))) = some true := by unfold isPtrT at h; split at h <;> first | rfl | cases h
theorem nilCmp_f {u : Option TypeDesc} {f : FuncId} {c : List PV} (h : isFnT u = true) : nilCmp u (.fn f c) (.d (.opq .nilFunc)) = some false := by unfold isFnT at h; split at h <;> first | rfl | cases h
theorem nilCmp_b {u : Option TypeDesc} {f : FuncId} {c : List DV} (h : isFnT u = true) : nilCmp u (.bm f c) (.d (.opq .nilFunc)) = some false := by unfold isFnT at h; split at h <;> first | rfl | cases h
theorem nilCmp_fn {u : Option TypeDesc} (h : isFnT u = true) : nilCmp u (.d (.opq .nilFunc)) (.d (.opq .nilFunc)) = some true := by unfold isFnT at h; split at h <;> first | rfl | cases h
@[simp] theorem pbin_pn {t : TypeId} {n g o : Nat} (h : isPtrT (P.underlying t) = true) : pbin P .eql t (.ptr n g o) (.d (.opq (.pointer none))) = some (.d (.bool false)) := by simp [pbin, nilCmp_p h]
@[simp] theorem pbin_cn {t : TypeId} {c : List DV} (h : isPtrT (P.underlying t) = true) : pbin P .eql t (.cptr c) (.d (.opq (.pointer none))) = some (.d (.bool false)) := by simp [pbin, nilCmp_c h]
@[simp] theorem pbin_nn {t : TypeId} (h : isPtrT (P.underlying t) = true) : pbin P .eql t (.d (.opq (.pointer none))) (.d (.opq (.pointer none))) = some (.d (.bool true)) := by simp [pbin, nilCmp_n h]
@[simp] theorem pbin_pnn {t : TypeId} {n g o : Nat} (h : isPtrT (P.underlying t) = true) : pbin P .neq t (.ptr n g o) (.d (.opq (.pointer none))) = some (.d (.bool true)) := by simp [pbin, nilCmp_p h]
@[simp] theorem pbin_cnn {t : TypeId} {c : List DV} (h : isPtrT (P.underlying t) = true) : pbin P .neq t (.cptr c) (.d (.opq (.pointer none))) = some (.d (.bool true)) := by simp [pbin, nilCmp_c h]
@[simp] theorem pbin_nnn {t : TypeId} (h : isPtrT (P.underlying t) = true) : pbin P .neq t (.d (.opq (.pointer none))) (.d (.opq (.pointer none))) = some (.d (.bool false)) := by simp [pbin, nilCmp_n h]
@[simp] theorem pbin_fn {t : TypeId} {f : FuncId} {c : List PV} (h : isFnT (P.underlying t) = true) : pbin P .eql t (.fn f c) (.d (.opq .nilFunc)) = some (.d (.bool false)) := by simp [pbin, nilCmp_f h]
@[simp] theorem pbin_fnn {t : TypeId} {f : FuncId} {c : List PV} (h : isFnT (P.underlying t) = true) : pbin P .neq t (.fn f c) (.d (.opq .nilFunc)) = some (.d (.bool true)) := by simp [pbin, nilCmp_f h]
@[simp] theorem pbin_bm {t : TypeId} {f : FuncId} {c : List DV} (h : isFnT (P.underlying t) = true) : pbin P .eql t (.bm f c) (.d (.opq .nilFunc)) = some (.d (.bool false)) := by simp [pbin, nilCmp_b h]
@[simp] theorem pbin_bmn {t : TypeId} {f : FuncId} {c : List DV} (h : isFnT (P.underlying t) = true) : pbin P .neq t (.bm f c) (.d (.opq .nilFunc)) = some (.d (.bool true)) := by simp [pbin, nilCmp_b h]
@[simp] theorem pbin_fe {t : TypeId} (h : isFnT (P.underlying t) = true) : pbin P .eql t (.d (.opq .nilFunc)) (.d (.opq .nilFunc)) = some (.d (.bool true)) := by simp [pbin, nilCmp_fn h]
@[simp] theorem pbin_fne {t : TypeId} (h : isFnT (P.underlying t) = true) : pbin P .neq t (.d (.opq .nilFunc)) (.d (.opq .nilFunc)) = some (.d (.bool false)) := by simp [pbin, nilCmp_fn h]
theorem wrap_in {n : Int} (h : -9223372036854775808 ≤ n ∧ n ≤ 9223372036854775807) : IntKind.i64.wrap n = n := by rw [IntKind.wrap_i64]; omega
theorem wrap_u8 {n : Int} (h : 0 ≤ n ∧ n ≤ 255) : IntKind.u8.wrap n = n := by
  unfold IntKind.wrap
  simp [IntKind.bits, IntKind.signed]
  omega
theorem wrap_u32 {n : Int} (h : 0 ≤ n ∧ n ≤ 4294967295) : IntKind.u32.wrap n = n := by
  unfold IntKind.wrap
  simp [IntKind.bits, IntKind.signed]
  omega

/-! fields, places -/
def fieldAddrV (P : Program) (t f : Nat) (gen : Nat → Nat) (x : PV) : Option (PV × Bool) :=
  match fldT P t f, x with
  | some (off, ft), .ptr n g o => if 0 < szT P ft then some (.ptr n g (o + off), false) else none
  | some (off, ft), .cptr cs => if 0 < szT P ft ∧ off < cs.length then some (.cptr (cs.drop off), false) else none
  | _, _ => none
@[simp] theorem qv_fieldAddr {t f : Nat} {x : Operand} : qv P S (.fieldAddr t x f) = fieldAddrV P t f S.gen (S.ev x) := rfl
theorem fieldAddrV_ptr {t f off ft n g o : Nat} {gen : Nat → Nat} (hf : fldT P t f = some (off, ft)) (hs : 0 < szT P ft) : fieldAddrV P t f gen (.ptr n g o) = some (.ptr n g (o + off), false) := by
  simp [fieldAddrV, hf, hs]
theorem fieldAddrV_cptr {t f off ft : Nat} {cs : List DV} {gen : Nat → Nat} (hf : fldT P t f = some (off, ft)) (hs : 0 < szT P ft) (hg : off < cs.length) : fieldAddrV P t f gen (.cptr cs) = some (.cptr (cs.drop off), false) := by
  simp [fieldAddrV, hf, hs, hg]
def fieldV (P : Program) (t f : Nat) (x : PV) : Option (PV × Bool) :=
  match fldT P t f, x with
  | some (off, ft), .d (.agg cs) => (partD P ft cs off).map fun r => (.d r, false)
  | some (off, ft), .pa cs => (partP P ft cs off).map fun r => (r, false)
  | _, _ => none
@[simp] theorem qv_field {t f : Nat} {x : Operand} : qv P S (.field t x f) = fieldV P t f (S.ev x) := rfl
def indexAddrV (P : Program) (t : Nat) (gen : Nat → Nat) (box : Nat → List PV) (x i : PV) : Option (PV × Bool) :=
  match elT P t, x, i with
  | some e, .d (.slice xs), .d (.int _ i) =>
    if 0 ≤ i ∧ i < (xs.length : Int) then
      match xs[i.toNat]? with
      | some x => if (cells x).length = szT P e ∧ 0 < szT P e then some (.cptr (cells x), false) else none
      | none => none
    else none
  | some e, .bsl n g len sz _, .d (.int _ i) => if 0 ≤ i ∧ i < (len : Int) ∧ g = gen n ∧ szT P e = sz ∧ len * sz ≤ (box n).length then some (.ptr n g (i.toNat * sz), false) else none
  | _, _, _ => none
@[simp] theorem qv_indexAddr {t : Nat} {x i : Operand} : qv P S (.indexAddr t x i) = indexAddrV P t S.gen S.box (S.ev x) (S.ev i) := rfl
theorem indexAddrV_map {α : Type} [Inhabited α] {t e : Nat} {gen : Nat → Nat} {box : Nat → List PV} {enc : α → DV} {xs : List α} {k : IntKind} {i : Int} (he : elT P t = some e) (hs : ∀ x, (cells (enc x)).length = szT P e) (hp : 0 < szT P e) (h0 : 0 ≤ i) (h1 : i < xs.length) :
    indexAddrV P t gen box (.d (.slice (xs.map enc))) (.d (.int k i)) = some (.cptr (cells (enc (nth xs i))), false) := by
  have hlt : i.toNat < xs.length := by omega
  unfold indexAddrV
  rw [he]
  simp only [List.length_map, h0, h1, and_self, if_true, List.getElem?_map, List.getElem?_eq_getElem hlt, Option.map_some, hs, hp]
  rw [nth, List.getD_eq_getElem?_getD, List.getElem?_eq_getElem hlt]
  rfl
theorem indexAddrV_bsl {t e n g len sz : Nat} {ag : Bool} {gen : Nat → Nat} {box : Nat → List PV} {k : IntKind} {i : Int} (he : elT P t = some e) (hs : szT P e = sz) (h0 : 0 ≤ i) (h1 : i < len) (hg : g = gen n) (hb : len * sz ≤ (box n).length) :
    indexAddrV P t gen box (.bsl n g len sz ag) (.d (.int k i)) = some (.ptr n g (i.toNat * sz), false) := by
  subst hs hg
  simp [indexAddrV, he, h0, h1, hb]
def indexV (P : Program) (t : Nat) (x i : PV) : Option (PV × Bool) :=
  match P.underlying t, x, i with
  | some .string, .d (.str s), .d (.int _ i) => if 0 ≤ i ∧ i < (s.length : Int) then some (.d (.int .u8 (s.getD i.toNat 0).toNat), false) else none
  | _, _, _ => none
@[simp] theorem qv_index {t : Nat} {x i : Operand} : qv P S (.index t x i) = indexV P t (S.ev x) (S.ev i) := rfl
theorem indexV_str {t : Nat} {s : List UInt8} {k : IntKind} {i : Int} (ht : P.underlying t = some .string) (h0 : 0 ≤ i) (h1 : i < s.length) : indexV P t (.d (.str s)) (.d (.int k i)) = some (.d (.int .u8 (nth s i).toNat), false) := by
  simp only [indexV, ht, h0, h1, and_self, if_true]
  rfl

/-! lengths -/
def lenV (P : Program) (t : Nat) (x : PV) : Option (PV × Bool) :=
  match P.underlying t, x with
  | some (.slice _), .d (.slice xs) => some (.d (.int .i64 xs.length), false)
  | some (.slice _), .bsl _ _ n _ _ => some (.d (.int .i64 n), false)
  | some .string, .d (.str s) => some (.d (.int .i64 s.length), false)
  | _, _ => none
@[simp] theorem qv_len {t : Nat} {x : Operand} : qv P S (.call ⟨.builtin .len, ⟨[x]⟩, ⟨[t]⟩⟩) = lenV P t (S.ev x) := rfl
theorem lenV_slice {t e : Nat} {xs : List DV} (h : P.underlying t = some (.slice e)) : lenV P t (.d (.slice xs)) = some (.d (.int .i64 xs.length), false) := by simp [lenV, h]
theorem lenV_bsl {t e n g k sz : Nat} {ag : Bool} (h : P.underlying t = some (.slice e)) : lenV P t (.bsl n g k sz ag) = some (.d (.int .i64 k), false) := by simp [lenV, h]
theorem lenV_str {t : Nat} {s : List UInt8} (h : P.underlying t = some .string) : lenV P t (.d (.str s)) = some (.d (.int .i64 s.length), false) := by simp [lenV, h]
@[simp] theorem qv_min {a : List Operand} {ts : Array TypeId} : qv P S (.call ⟨.builtin .min, ⟨a⟩, ts⟩) = q1 (minmax false (a.map S.ev)) := rfl
@[simp] theorem qv_max {a : List Operand} {ts : Array TypeId} : qv P S (.call ⟨.builtin .max, ⟨a⟩, ts⟩) = q1 (minmax true (a.map S.ev)) := rfl
@[simp] theorem minmax_cons {mx : Bool} {k : IntKind} {a : Int} {r : List PV} : minmax mx (.d (.int k a) :: r) = mmGo mx k a r := rfl
@[simp] theorem mmGo_nil {mx : Bool} {k : IntKind} {a : Int} : mmGo mx k a [] = some (.d (.int k a)) := rfl
@[simp] theorem mmGo_max {k : IntKind} {a b : Int} {r : List PV} : mmGo true k a (.d (.int k b) :: r) = mmGo true k (if b > a then b else a) r := by simp [mmGo]
@[simp] theorem mmGo_min {k : IntKind} {a b : Int} {r : List PV} : mmGo false k a (.d (.int k b) :: r) = mmGo false k (if b < a then b else a) r := by simp [mmGo]

/-! what is made, cut, turned -/
def eSz (P : Program) (t : Nat) : Nat := match elT P t with | some e => szT P e | none => 0
@[simp] theorem cpS_v {S : PS} {d t n g lo len sz : Nat} {ag ti : Bool} {xs : List DV} : cpS P S d t (.view n g lo len sz ag ti) (.d (.slice xs)) = if sz = 1 ∧ (elT P t).isSome = true ∧ eSz P t = 1 ∧ g = S.gen n ∧ 0 < xs.length ∧ xs.length ≤ len ∧ lo + xs.length ≤ (S.box n).length ∧ xs.all isIt = true then some ((S.im n g ((S.box n).take lo ++ xs.map .d ++ (S.box n).drop (lo + xs.length))).q d (.d (.int .i64 xs.length)) false) else none := by
  unfold cpS cpAt eSz
  by_cases h : sz = 1
  · simp only [h, if_true, true_and]
    cases elT P t with
    | none => simp
    | some e => simp only [Option.isSome_some, true_and]; split <;> rename_i h1 <;> split <;> rename_i h2 <;> first | rfl | exact absurd h1 (by simpa [and_assoc, and_comm, and_left_comm] using h2) | exact absurd h2 (by simpa [and_assoc, and_comm, and_left_comm] using h1)
  · simp only [h, if_false, false_and]
def hiV (top : Nat) (x : Option PV) : Option Nat := match x with | none => some top | some (.d (.int _ i)) => if 0 ≤ i ∧ i ≤ (top : Int) then some i.toNat else none | _ => none
def loV (top : Nat) (x : Option PV) : Option Nat := match x with | none => some 0 | some (.d (.int _ i)) => if 0 ≤ i ∧ i ≤ (top : Int) then some i.toNat else none | _ => none
@[simp] theorem hiV_none {top : Nat} : hiV top none = some top := rfl
@[simp] theorem loV_none {top : Nat} : loV top none = some 0 := rfl
@[simp] theorem hiV_ok {top : Nat} {k : IntKind} {i : Int} (h : 0 ≤ i ∧ i ≤ (top : Int)) : hiV top (some (.d (.int k i))) = some i.toNat := if_pos h
@[simp] theorem loV_ok {top : Nat} {k : IntKind} {i : Int} (h : 0 ≤ i ∧ i ≤ (top : Int)) : loV top (some (.d (.int k i))) = some i.toNat := if_pos h
def slL (xs : List DV) (h l : Nat) : PV × Bool := (.d (.slice ((xs.take h).drop l)), false)
@[simp] theorem slL_eq {xs : List DV} {h l : Nat} : slL xs h l = (.d (.slice ((xs.take h).drop l)), false) := rfl
def slH (xs : List DV) (lo : Option PV) (h : Nat) : Option (PV × Bool) := (loV h lo).map (slL xs h)
@[simp] theorem slH_eq {xs : List DV} {lo : Option PV} {h : Nat} : slH xs lo h = (loV h lo).map (slL xs h) := rfl
def sl3L (xs : List DV) (m h l : Nat) : PV × Bool := (.d (.slice ((xs.take h).drop l)), m == h)
@[simp] theorem sl3L_eq {xs : List DV} {m h l : Nat} : sl3L xs m h l = (.d (.slice ((xs.take h).drop l)), m == h) := rfl
def sl3H (xs : List DV) (lo : Option PV) (m h : Nat) : Option (PV × Bool) := (loV h lo).map (sl3L xs m h)
@[simp] theorem sl3H_eq {xs : List DV} {lo : Option PV} {m h : Nat} : sl3H xs lo m h = (loV h lo).map (sl3L xs m h) := rfl
def sl3M (xs : List DV) (lo : Option PV) (hi : PV) (m : Nat) : Option (PV × Bool) := (hiV m (some hi)).bind (sl3H xs lo m)
@[simp] theorem sl3M_eq {xs : List DV} {lo : Option PV} {hi : PV} {m : Nat} : sl3M xs lo hi m = (hiV m (some hi)).bind (sl3H xs lo m) := rfl
def ssL (s : List UInt8) (h l : Nat) : PV × Bool := (.d (.str ((s.take h).drop l)), false)
@[simp] theorem ssL_eq {s : List UInt8} {h l : Nat} : ssL s h l = (.d (.str ((s.take h).drop l)), false) := rfl
def ssH (s : List UInt8) (lo : Option PV) (h : Nat) : Option (PV × Bool) := (loV h lo).map (ssL s h)
@[simp] theorem ssH_eq {s : List UInt8} {lo : Option PV} {h : Nat} : ssH s lo h = (loV h lo).map (ssL s h) := rfl
def vwL (n g sz : Nat) (ag : Bool) (h l : Nat) : PV × Bool := (.view n g l (h - l) sz ag false, false)
@[simp] theorem vwL_eq {n g sz h l : Nat} {ag : Bool} : vwL n g sz ag h l = (.view n g l (h - l) sz ag false, false) := rfl
def vwH (n g sz : Nat) (ag : Bool) (lo : Option PV) (h : Nat) : Option (PV × Bool) := (loV h lo).map (vwL n g sz ag h)
@[simp] theorem vwH_eq {n g sz h : Nat} {ag : Bool} {lo : Option PV} : vwH n g sz ag lo h = (loV h lo).map (vwL n g sz ag h) := rfl
def vw3L (n g sz : Nat) (ag : Bool) (m h l : Nat) : PV × Bool := (.view n g l (h - l) sz ag (m == h), false)
@[simp] theorem vw3L_eq {n g sz m h l : Nat} {ag : Bool} : vw3L n g sz ag m h l = (.view n g l (h - l) sz ag (m == h), false) := rfl
def vw3H (n g sz : Nat) (ag : Bool) (lo : Option PV) (m h : Nat) : Option (PV × Bool) := (loV h lo).map (vw3L n g sz ag m h)
@[simp] theorem vw3H_eq {n g sz m h : Nat} {ag : Bool} {lo : Option PV} : vw3H n g sz ag lo m h = (loV h lo).map (vw3L n g sz ag m h) := rfl
def vw3M (n g sz : Nat) (ag : Bool) (lo : Option PV) (hi : PV) (m : Nat) : Option (PV × Bool) := (hiV m (some hi)).bind (vw3H n g sz ag lo m)
@[simp] theorem vw3M_eq {n g sz m : Nat} {ag : Bool} {lo : Option PV} {hi : PV} : vw3M n g sz ag lo hi m = (hiV m (some hi)).bind (vw3H n g sz ag lo m) := rfl
def sliceV (P : Program) (t : Nat) (x : PV) (lo hi mx : Option PV) : Option (PV × Bool) :=
  match x with
  | .d (.slice xs) =>
    if szOk (eSz P t) xs = true ∧ 0 < eSz P t then
      match mx, hi with
      | none, hi => (hiV xs.length hi).bind (slH xs lo)
      | some m, some h => (hiV xs.length (some m)).bind (sl3M xs lo h)
      | some _, none => none
    else none
  | .d (.str s) => match mx, P.underlying t with | none, some .string => (hiV s.length hi).bind (ssH s lo) | _, _ => none
  | .bsl n g len sz ag =>
    if (elT P t).isSome = true ∧ eSz P t = sz then
      match mx, hi with
      | none, hi => (hiV len hi).bind (vwH n g sz ag lo)
      | some m, some h => (hiV len (some m)).bind (vw3M n g sz ag lo h)
      | some _, none => none
    else none
  | _ => none
@[simp] theorem sliceV_b2 {t n g len sz : Nat} {ag : Bool} {lo hi : Option PV} : sliceV P t (.bsl n g len sz ag) lo hi none = if (elT P t).isSome = true ∧ eSz P t = sz then (hiV len hi).bind (vwH n g sz ag lo) else none := rfl
@[simp] theorem sliceV_b3 {t n g len sz : Nat} {ag : Bool} {lo : Option PV} {h m : PV} : sliceV P t (.bsl n g len sz ag) lo (some h) (some m) = if (elT P t).isSome = true ∧ eSz P t = sz then (hiV len (some m)).bind (vw3M n g sz ag lo h) else none := rfl
@[simp] theorem sliceV_2 {t : Nat} {xs : List DV} {lo hi : Option PV} : sliceV P t (.d (.slice xs)) lo hi none = if szOk (eSz P t) xs = true ∧ 0 < eSz P t then (hiV xs.length hi).bind (slH xs lo) else none := rfl
@[simp] theorem sliceV_3 {t : Nat} {xs : List DV} {lo : Option PV} {h m : PV} : sliceV P t (.d (.slice xs)) lo (some h) (some m) = if szOk (eSz P t) xs = true ∧ 0 < eSz P t then (hiV xs.length (some m)).bind (sl3M xs lo h) else none := rfl
@[simp] theorem sliceV_s {t : Nat} {s : List UInt8} {lo hi : Option PV} (h : P.underlying t = some .string) : sliceV P t (.d (.str s)) lo hi none = (hiV s.length hi).bind (ssH s lo) := by
  simp only [sliceV, h]
theorem bnd_hi {top : Nat} {x : Operand} : bnd S top x = hiV top (some (S.ev x)) := by
  unfold bnd hiV
  cases S.ev x with
  | d y => cases y <;> rfl
  | _ => rfl
theorem bnd_lo {top : Nat} {x : Operand} : bnd S top x = loV top (some (S.ev x)) := by
  unfold bnd loV
  cases S.ev x with
  | d y => cases y <;> rfl
  | _ => rfl
theorem loB_V {top : Nat} {x : Option Operand} : loB S top x = loV top (x.map S.ev) := by
  cases x with
  | none => rfl
  | some x => exact bnd_lo
theorem hiB_V {top : Nat} {x : Option Operand} : hiB S top x = hiV top (x.map S.ev) := by
  cases x with
  | none => rfl
  | some x => exact bnd_hi
theorem map_bind {α β : Type} (o : Option α) (f : α → β) : (o.bind fun x => some (f x)) = o.map f := by cases o <;> rfl
@[simp] theorem qv_slice {t : Nat} {x : Operand} {lo hi mx : Option Operand} : qv P S (.slice t x lo hi mx) = sliceV P t (S.ev x) (lo.map S.ev) (hi.map S.ev) (mx.map S.ev) := by
  show sliceD P S t x lo hi mx = _
  unfold sliceD sliceV
  cases S.ev x with
  | d y =>
    cases y with
    | slice xs =>
      simp only
      unfold eSz
      cases elT P t with
      | none => simp
      | some e =>
        simp only
        by_cases hc : szOk (szT P e) xs = true ∧ 0 < szT P e
        · rw [if_pos hc, if_pos hc]
          cases mx with
          | none =>
            simp only [hiB_V, loB_V, Option.map_none]
            congr 1
            funext h
            exact map_bind _ _
          | some m =>
            cases hi with
            | none => rfl
            | some hv =>
              simp only [bnd_hi, loB_V, Option.map_some]
              congr 1
              funext m
              rw [sl3M_eq]
              congr 1
              funext h
              exact map_bind _ _
        · rw [if_neg hc, if_neg hc]
    | str s =>
      simp only
      cases mx with
      | none =>
        cases P.underlying t with
        | none => rfl
        | some u =>
          cases u <;> first | rfl | (simp only [hiB_V, loB_V, Option.map_none]; congr 1; funext h; exact map_bind _ _)
      | some m => rfl
    | _ => rfl
  | bsl n g len sz ag =>
    simp only
    unfold eSz
    cases elT P t with
    | none => simp
    | some e =>
      simp only [Option.isSome_some, true_and]
      by_cases hc : szT P e = sz
      · rw [if_pos hc, if_pos hc]
        cases mx with
        | none =>
          simp only [hiB_V, loB_V, Option.map_none]
          congr 1
          funext h
          exact map_bind _ _
        | some m =>
          cases hi with
          | none => rfl
          | some hv =>
            simp only [bnd_hi, loB_V, Option.map_some]
            congr 1
            funext m
            rw [vw3M_eq]
            congr 1
            funext h
            exact map_bind _ _
      · rw [if_neg hc, if_neg hc]
  | _ => rfl
theorem map_take' {α β : Type} {f : α → β} {l : List α} {i : Nat} : (l.map f).take i = (l.take i).map f := List.map_take.symm
theorem map_drop' {α β : Type} {f : α → β} {l : List α} {i : Nat} : (l.map f).drop i = (l.drop i).map f := List.map_drop.symm
@[simp] theorem szOk_map {α : Type} {sz : Nat} {enc : α → DV} {xs : List α} (h : ∀ x, (cells (enc x)).length = sz) : szOk sz (xs.map enc) = true := by simp [szOk, h]
@[simp] theorem szOk_nil {sz : Nat} : szOk sz [] = true := rfl
@[simp] theorem szOk_cons {sz : Nat} {x : DV} {xs : List DV} : szOk sz (x :: xs) = ((cells x).length == sz && szOk sz xs) := rfl
@[simp] theorem szOk_append {sz : Nat} {xs ys : List DV} : szOk sz (xs ++ ys) = (szOk sz xs && szOk sz ys) := by simp [szOk]
@[simp] theorem cells_int {k : IntKind} {n : Int} : cells (.int k n) = [.int k n] := rfl
@[simp] theorem cells_bool {b : Bool} : cells (.bool b) = [.bool b] := rfl
@[simp] theorem cells_str {s : List UInt8} : cells (.str s) = [.str s] := rfl
@[simp] theorem cells_slice {xs : List DV} : cells (.slice xs) = [.slice xs] := rfl
@[simp] theorem cells_agg {cs : List DV} : cells (.agg cs) = cs := rfl
def mkB (r : Option (List PV)) : Option (PV × Bool) := r.map fun cs => (mkA cs, false)
@[simp] theorem mkB_some {cs : List PV} : mkB (some cs) = some (mkA cs, false) := rfl
def buildV (P : Program) (S : PS) (t : Nat) (ps : List (Nat × Operand)) : Option (PV × Bool) :=
  match zeroT P t with
  | some (.agg z) => if z.toList.all (·.oneCell') = true ∧ fldsOk P t = true then mkB (buildP P S t ps (z.toList.map fun c => .d (ofConstD c))) else none
  | _ => none
@[simp] theorem qv_build {t : Nat} {ps : List (Nat × Operand)} : qv P S (.build t ⟨ps⟩) = buildV P S t ps := rfl
def zstr (P : Program) (t : Nat) : Option (List DV) :=
  match zeroT P t with
  | some (.agg z) => if z.toList.all (·.oneCell') = true ∧ fldsOk P t = true then some (z.toList.map ofConstD) else none
  | _ => none
def buildZ (P : Program) (S : PS) (t : Nat) (ps : List (Nat × Operand)) (z : Option (List DV)) : Option (PV × Bool) := match z with | some cs => mkB (buildP P S t ps (cs.map .d)) | none => none
@[simp] theorem buildZ_s {t : Nat} {ps : List (Nat × Operand)} {cs : List DV} : buildZ P S t ps (some cs) = mkB (buildP P S t ps (cs.map .d)) := rfl
@[simp] theorem buildV_z {t : Nat} {ps : List (Nat × Operand)} : buildV P S t ps = buildZ P S t ps (zstr P t) := by
  unfold zstr buildV
  split
  · rename_i z hz
    by_cases hc : z.toList.all (·.oneCell') = true ∧ fldsOk P t = true
    · rw [if_pos hc, if_pos hc]
      simp only [buildZ, List.map_map]
      rfl
    · rw [if_neg hc, if_neg hc]
      rfl
  · rfl
@[simp] theorem buildP_nil {t : Nat} {cs : List PV} : buildP P S t [] cs = some cs := rfl
def buildSliceV (P : Program) (S : PS) (t len : Nat) (ps : List (Nat × Operand)) : Option (PV × Bool) :=
  match elT P t with
  | some e => if ps.length = len ∧ len * szT P e ≤ 16777216 ∧ 0 < szT P e ∧ (zeroT P e).isSome then (elemsD S (szT P e) 0 ps).map fun xs => (.d (.slice xs), true) else none
  | none => none
@[simp] theorem qv_buildSlice {t n : Nat} {ps : List (Nat × Operand)} : qv P S (.buildSlice t n ⟨ps⟩) = buildSliceV P S t n ps := rfl
@[simp] theorem elemsD_nil {sz k : Nat} : elemsD S sz k [] = some [] := rfl
theorem elemsD_cons {sz k : Nat} {x : Operand} {r : List (Nat × Operand)} {v : DV} (hx : S.ev x = .d v) (h1 : (cells v).length = sz) : elemsD S sz k ((k, x) :: r) = (elemsD S sz (k + 1) r).map (v :: ·) := by
  rw [elemsD, hx]
  simp [h1]
@[simp] theorem qv_makeFunc {f : Nat} {a : List Operand} : qv P S (.makeFunc (.func f) ⟨[]⟩ ⟨a⟩) = some (.fn f (a.map S.ev), false) := rfl
@[simp] theorem qv_makeBm {f : Nat} {x : Operand} : qv P S (.makeFunc (.func f) ⟨[x]⟩ ⟨[]⟩) = bmV f [S.ev x] [] := rfl
@[simp] theorem bmV_c {f : Nat} {c : List DV} : bmV f [.cptr c] [] = some (.bm f c, false) := rfl
def convertV (P : Program) (src dst : Nat) (x : PV) : Option (PV × Bool) :=
  match P.underlying src, P.underlying dst, x with
  | some (.int _), some (.int k), .d (.int _ n) => some (.d (.int k (k.wrap n)), false)
  | some .string, some .string, .d (.str s) => some (.d (.str s), false)
  | some (.slice e), some .string, .d (.slice xs) =>
    match P.underlying e with
    | some (.int .u8) => (toBytes xs).map fun s => (.d (.str s), false)
    | _ => none
  | some .string, some (.slice e), .d (.str s) =>
    match P.underlying e with
    | some (.int .u8) => if szT P e = 1 then some (.d (.slice (s.map fun b => .int .u8 b.toNat)), false) else none
    | _ => none
  | _, _, _ => none
@[simp] theorem qv_convert {s t : Nat} {x : Operand} : qv P S (.convert s t x) = convertV P s t (S.ev x) := rfl

end

end BoEng

/- The bridge from a law's arguments, as the row reads them, to data; and from a function's contract to the row's walk. -/
namespace BoEng
open Go Go.RowKit Go.WideShapes

/-- The datum of a type's cells. -/
def mkD (P : Program) (t : TypeId) (cs : List DV) : DV :=
  match P.underlying t with
  | some (.struct _) => .agg cs
  | _ => cs.headD (.bool false)

/-- Fields that lie one behind another. -/
def fieldsC (r : TypeId → List DV → Prop) : List Field → List DV → Prop
  | [], cs => cs = []
  | f :: fs, cs => ∃ a b, cs = a ++ b ∧ r f.type a ∧ fieldsC r fs b

/-- Cells that are of a type. -/
def typC (P : Program) : Nat → TypeId → List DV → Prop
  | 0, _, _ => False
  | n + 1, t, cs =>
    match P.underlying t with
    | some .bool => ∃ b, cs = [.bool b]
    | some (.int k) => ∃ i, cs = [.int k i] ∧ (Lit.int k i).wf = true
    | some .string => ∃ s : List UInt8, cs = [.str s] ∧ s.length ≤ maxLen
    | some (.slice e) => ∃ xs, cs = [.slice xs] ∧ xs.length ≤ maxLen ∧ ∀ x ∈ xs, ∃ ds, typC P n e ds ∧ x = mkD P e ds
    | some (.struct fs) => fieldsC (typC P n) fs.toList cs
    | _ => False

def typD (P : Program) (n : Nat) (t : TypeId) (x : DV) : Prop := ∃ ds, typC P n t ds ∧ x = mkD P t ds

/-- The fields lie one behind another from a cell on, up to another. -/
def seqOk (P : Program) : Nat → List Field → Nat → Bool
  | o, [], e => o == e
  | o, f :: fs, e => f.offset == o && seqOk P (o + P.cellsOf f.type) fs e

/-- A type of data alone. -/
def dataOk (P : Program) : Nat → TypeId → Bool
  | 0, _ => false
  | n + 1, t =>
    match P.underlying t with
    | some .bool => P.cellsOf t == 1
    | some (.int _) => P.cellsOf t == 1
    | some .string => P.cellsOf t == 1
    | some (.slice e) => P.cellsOf t == 1 && dataOk P n e && decide (0 < P.cellsOf e)
    | some (.struct fs) => seqOk P 0 fs.toList (P.cellsOf t) && fs.toList.all fun f => dataOk P n f.type
    | _ => false

def nofr : Nat → Option Nat := fun _ => none

/-- Cells stand for data. -/
def WRep (w : World) (cs : List Value) (ds : List DV) : Prop :=
  ds.length = cs.length ∧ ∀ (k : Nat) (u : Value) (p : DV), cs[k]? = some u → ds[k]? = some p → one u ∧ DRep w nofr u p

theorem WRep.append {w : World} {a b : List Value} {x y : List DV} (h : WRep w a x) (k : WRep w b y) : WRep w (a ++ b) (x ++ y) := by
  refine ⟨by simp [h.1, k.1], fun i u p hu hp => ?_⟩
  by_cases hi : i < a.length
  · rw [List.getElem?_append_left hi] at hu
    rw [List.getElem?_append_left (by rw [h.1]; exact hi)] at hp
    exact h.2 i u p hu hp
  · rw [List.getElem?_append_right (by omega)] at hu
    rw [List.getElem?_append_right (by rw [h.1]; omega)] at hp
    rw [h.1] at hp
    exact k.2 _ u p hu hp

theorem WRep.one' {w : World} {u : Value} {p : DV} (h1 : one u) (h : DRep w nofr u p) : WRep w [u] [p] := by
  refine ⟨rfl, fun k u' p' hu hp => ?_⟩
  cases k with
  | zero => simp at hu hp; subst hu hp; exact ⟨h1, h⟩
  | succ k => simp at hu

section
variable {H : Type} {enc : TypeId × Value → H} {P : Program} {w : World} {base : Nat} {spare : Nat → Bool} {held : Bool}

theorem cells_mkD {n : Nat} {t : TypeId} {ds : List DV} (h : typC P n t ds) : cells (mkD P t ds) = ds := by
  cases n with
  | zero => exact h.elim
  | succ n =>
    unfold typC at h
    unfold mkD
    split at h
    · rename_i hu; rw [hu]; obtain ⟨b, rfl⟩ := h; rfl
    · rename_i hu; rw [hu]; obtain ⟨b, rfl, _⟩ := h; rfl
    · rename_i hu; rw [hu]; obtain ⟨b, rfl, _⟩ := h; rfl
    · rename_i hu; rw [hu]; obtain ⟨b, rfl, _⟩ := h; rfl
    · rename_i hu; rw [hu]; rfl
    · exact h.elim

theorem opens_fields {n : Nat} (fuel : Nat) (ih : ∀ t cs x, dataOk P n t = true → DataW.trod enc P w base spare held fuel t cs = some x → ∃ ds, WRep w cs ds ∧ cs.length = P.cellsOf t ∧ typC P n t ds) :
    ∀ (fs : List Field) (o e : Nat) (cs : List Value), seqOk P o fs e = true → (∀ f ∈ fs, dataOk P n f.type = true) → o + cs.length = e →
      ∀ (all : List Value), (∀ f ∈ fs, ∃ x, DataW.trod enc P w base spare held fuel f.type ((all.drop f.offset).take (P.cellsOf f.type)) = some x) → all.drop o = cs →
        ∃ ds, WRep w cs ds ∧ fieldsC (typC P n) fs ds
  | [], o, e, cs, hs, _, hl, all, _, hd => by
    simp [seqOk] at hs
    have : cs = [] := List.eq_nil_of_length_eq_zero (by omega)
    subst this
    exact ⟨[], ⟨rfl, by simp⟩, rfl⟩
  | f :: fs, o, e, cs, hs, hall, hl, all, hx, hd => by
    simp only [seqOk, Bool.and_eq_true, beq_iff_eq] at hs
    obtain ⟨ho, hs⟩ := hs
    obtain ⟨x, hfx⟩ := hx f List.mem_cons_self
    rw [ho, hd] at hfx
    obtain ⟨d1, r1, l1, t1⟩ := ih _ _ _ (hall f List.mem_cons_self) hfx
    have hle : P.cellsOf f.type ≤ cs.length := by
      rw [List.length_take] at l1
      omega
    obtain ⟨d2, r2, t2⟩ := opens_fields fuel ih fs (o + P.cellsOf f.type) e (cs.drop (P.cellsOf f.type)) hs (fun g hg => hall g (List.mem_cons_of_mem _ hg)) (by rw [List.length_drop]; omega) all
      (fun g hg => hx g (List.mem_cons_of_mem _ hg)) (by rw [← hd, List.drop_drop])
    refine ⟨d1 ++ d2, ?_, d1, d2, rfl, t1, t2⟩
    have := r1.append r2
    rwa [List.take_append_drop] at this

/-- What is read by the row stands for data of the type. -/
theorem opens : ∀ (n : Nat) (fuel : Nat) (t : TypeId) (cs : List Value) (x : DataW H × List MemPlace), dataOk P n t = true → DataW.trod enc P w base spare held fuel t cs = some x →
    ∃ ds, WRep w cs ds ∧ cs.length = P.cellsOf t ∧ typC P n t ds
  | 0, _, _, _, _, h, _ => by simp [dataOk] at h
  | n + 1, fuel, t, cs, x, h, hx => by
    unfold dataOk at h
    split at h
    · rename_i hu
      obtain ⟨b, rfl, _⟩ := DataW.trod_bool hu hx
      refine ⟨[.bool b], .one' rfl (.bool b), by simp at h; simp [h], ?_⟩
      unfold typC; rw [hu]; exact ⟨b, rfl⟩
    · rename_i k hu
      obtain ⟨i, rfl, _, hw⟩ := DataW.trod_int hu hx
      refine ⟨[.int k i], .one' rfl (.int k i), by simp at h; simp [h], ?_⟩
      unfold typC; rw [hu]; exact ⟨i, rfl, hw⟩
    · rename_i hu
      obtain ⟨s, rfl, _, hw⟩ := DataW.trod_string hu hx
      refine ⟨[.str s.data.toList], .one' rfl ?_, by simp at h; simp [h], ?_⟩
      · have := DRep.str (w := w) (fr := nofr) s.data.toList
        simpa using this
      · unfold typC; rw [hu]; exact ⟨_, rfl, by simpa using hw⟩
    · rename_i e hu
      simp only [Bool.and_eq_true, beq_iff_eq, decide_eq_true_eq] at h
      obtain ⟨⟨h1, h2⟩, h3⟩ := h
      rcases DataW.trod_slice hu hx with ⟨rfl, _⟩ | ⟨a, len, cap, elems, rest, m, rfl, rfl, _, _, hlc, hcm, hel, helem, _, _⟩
      · refine ⟨[.slice []], .one' rfl ?_, by simp [h1], ?_⟩
        · exact .slice none 0 0 (fun _ => undef) [] (Nat.le_refl _) (by simp) (by simp) (by simp) (by simp [flat])
        · unfold typC; rw [hu]; exact ⟨[], rfl, by simp, by simp⟩
      · have key : ∀ i, i < len → ∃ cs' ds, w.cells? base (a.add (i * P.cellsOf e)) (P.cellsOf e) = some cs' ∧ WRep w cs' ds ∧ cs'.length = P.cellsOf e ∧ typC P n e ds := by
          intro i hi
          have h4 := helem i hi
          have : ∃ y, elems[i]? = some y := ⟨elems[i]'(by omega), List.getElem?_eq_getElem (by omega)⟩
          obtain ⟨y, hy⟩ := this
          rw [hy, Option.bind_eq_some_iff] at h4
          obtain ⟨cs', hcs, hy'⟩ := h4
          obtain ⟨ds, r, l, t'⟩ := opens n m e cs' y h2 hy'
          exact ⟨cs', ds, hcs, r, l, t'⟩
        -- the elements
        have : ∃ dss : List (List DV), dss.length = len ∧ ∀ (i : Nat) (ds : List DV), dss[i]? = some ds → ∃ cs', w.cells? base (a.add (i * P.cellsOf e)) (P.cellsOf e) = some cs' ∧ WRep w cs' ds ∧ cs'.length = P.cellsOf e ∧ typC P n e ds := by
          clear helem hel hlc hx
          revert key
          generalize P.cellsOf e = sz
          intro key
          have : ∀ m', m' ≤ len → ∃ dss : List (List DV), dss.length = m' ∧ ∀ (i : Nat) (ds : List DV), dss[i]? = some ds → ∃ cs', w.cells? base (a.add (i * sz)) sz = some cs' ∧ WRep w cs' ds ∧ cs'.length = sz ∧ typC P n e ds := by
            intro m'
            induction m' with
            | zero => intro _; exact ⟨[], rfl, by simp⟩
            | succ m' ih =>
              intro hm
              obtain ⟨dss, hl, hd⟩ := ih (by omega)
              obtain ⟨cs', ds, q⟩ := key m' (by omega)
              refine ⟨dss ++ [ds], by simp [hl], fun i ds' hi => ?_⟩
              by_cases hlt : i < dss.length
              · rw [List.getElem?_append_left hlt] at hi
                exact hd i ds' hi
              · rw [List.getElem?_append_right (by omega)] at hi
                have : i - dss.length = 0 := by
                  cases hh : i - dss.length with
                  | zero => rfl
                  | succ _ => rw [hh] at hi; simp at hi
                rw [this] at hi
                simp at hi
                subst hi
                have : i = m' := by omega
                subst this
                exact ⟨cs', q⟩
          exact this len (Nat.le_refl _)
        obtain ⟨dss, hdl, hds⟩ := this
        let xs := dss.map (mkD P e)
        have hxl : xs.length = len := by simp [xs, hdl]
        have hxs : ∀ i x', xs[i]? = some x' → ∃ cs' ds, w.cells? base (a.add (i * P.cellsOf e)) (P.cellsOf e) = some cs' ∧ WRep w cs' ds ∧ cs'.length = P.cellsOf e ∧ typC P n e ds ∧ x' = mkD P e ds ∧ cells x' = ds := by
          intro i x' hi
          simp only [xs, List.getElem?_map, Option.map_eq_some_iff] at hi
          obtain ⟨ds, h5, rfl⟩ := hi
          obtain ⟨cs', q1, q2, q3, q4⟩ := hds i ds h5
          exact ⟨cs', ds, q1, q2, q3, q4, rfl, cells_mkD q4⟩
        have hsz : ∀ x' ∈ xs, (cells x').length = P.cellsOf e := by
          intro x' hm
          obtain ⟨i, hi⟩ := List.mem_iff_getElem?.1 hm
          obtain ⟨cs', ds, _, r, l, _, _, hc⟩ := hxs i x' hi
          rw [hc, r.1, l]
        have hspot : 0 < xs.length → a.spot = none := by
          intro h0
          obtain ⟨cs', ds, q1, q2, q3, q4, q5, q6⟩ := hxs 0 xs[0] (List.getElem?_eq_getElem h0)
          obtain ⟨_, _, q7⟩ := World.cells?_some q1
          have q8 := q7 0 h3
          rw [List.getElem?_eq_getElem (by omega)] at q8
          have h9 := World.cell?_spot q8
          simpa [Addr.add] using h9
        have hcell : ∀ k, k < xs.length * P.cellsOf e → ∃ u, w.cell? (a.add k) = some u ∧ one u ∧ ∀ p, (flat xs)[k]? = some p → DRep w nofr u p := by
          intro k hk
          have hi : k / P.cellsOf e < xs.length := (Nat.div_lt_iff_lt_mul h3).2 hk
          have hj : k % P.cellsOf e < P.cellsOf e := Nat.mod_lt _ h3
          have hk' : k / P.cellsOf e * P.cellsOf e + k % P.cellsOf e = k := by rw [Nat.mul_comm]; exact Nat.div_add_mod _ _
          obtain ⟨cs', ds, q1, q2, q3, q4, q5, q6⟩ := hxs _ xs[k / P.cellsOf e] (List.getElem?_eq_getElem hi)
          obtain ⟨_, _, q7⟩ := World.cells?_some q1
          have q8 := q7 (k % P.cellsOf e) hj
          rw [List.getElem?_eq_getElem (by omega)] at q8
          have hadd : (a.add (k / P.cellsOf e * P.cellsOf e)).add (k % P.cellsOf e) = a.add k := by
            have hsp : ∀ (a : Addr) (i j : Nat), a.spot = none → (a.add i).add j = a.add (i + j) := by
              intro a i j ha
              obtain ⟨b, o, s⟩ := a
              simp only at ha
              subst ha
              rw [add_plain, add_plain, add_plain, Nat.add_assoc]
            rw [hsp a _ _ (hspot (Nat.lt_of_le_of_lt (Nat.zero_le _) hi)), hk']
          rw [hadd] at q8
          have hf := flat_at hsz _ _ (List.getElem?_eq_getElem hi) (k % P.cellsOf e) hj
          rw [hk', q6] at hf
          have hd : ∃ p, ds[k % P.cellsOf e]? = some p := ⟨ds[k % P.cellsOf e]'(by rw [q2.1]; omega), List.getElem?_eq_getElem _⟩
          obtain ⟨p, hp⟩ := hd
          obtain ⟨o1, r1⟩ := q2.2 (k % P.cellsOf e) _ p (List.getElem?_eq_getElem (by omega)) hp
          refine ⟨_, q8, o1, fun p' hp' => ?_⟩
          rw [hf, hp] at hp'
          cases hp'
          exact r1
        refine ⟨[.slice xs], .one' rfl ?_, by simp [h1], ?_⟩
        · rw [← hxl]
          refine .slice (some a) cap (P.cellsOf e) (fun k => (w.cell? (a.add k)).getD undef) xs (by omega) hsz (fun h0 => ?_) (fun k hk => ?_) (fun k p hp => ?_)
          · have hspot := hspot h0
            refine ⟨a, rfl, hspot, fun f hf => by simp [nofr] at hf, fun k hk => ?_⟩
            obtain ⟨u, hu', _⟩ := hcell k hk
            have e1 : a.add k = ⟨a.block, a.off + k, none⟩ := by
              obtain ⟨b, o, s⟩ := a
              simp only at hspot
              subst hspot
              exact add_plain _ _ _
            rw [hu', ← e1, hu']
            rfl
          · obtain ⟨u, hu', o1, _⟩ := hcell k hk
            show one ((w.cell? (a.add k)).getD undef)
            rw [hu']
            exact o1
          · have hk : k < xs.length * P.cellsOf e := by
              have := (List.getElem?_eq_some_iff.1 hp).1
              rwa [flat_length hsz] at this
            obtain ⟨u, hu', _, r1⟩ := hcell k hk
            show DRep w nofr ((w.cell? (a.add k)).getD undef) p
            rw [hu']
            exact r1 p hp
        · unfold typC; rw [hu]
          refine ⟨xs, rfl, by omega, fun x' hm => ?_⟩
          obtain ⟨i, hi⟩ := List.mem_iff_getElem?.1 hm
          obtain ⟨cs', ds, _, _, _, q4, q5, _⟩ := hxs i x' hi
          exact ⟨ds, q4, q5⟩
    · rename_i fs hu
      simp only [Bool.and_eq_true, List.all_eq_true] at h
      obtain ⟨h1, h2⟩ := h
      obtain ⟨xs, m, rfl, _, hl, hxl, hf⟩ := DataW.trod_struct hu hx
      obtain ⟨ds, r, t'⟩ := opens_fields (P := P) (n := n) m (fun t cs x hd hx => opens n m t cs x hd hx) fs.toList 0 (P.cellsOf t) cs h1 h2 (by omega) cs (fun f hm => by
        obtain ⟨i, hi⟩ := List.mem_iff_getElem?.1 hm
        have hi' : fs[i]? = some f := by simpa using hi
        have hlt : i < fs.size := by
          have := (Array.getElem?_eq_some_iff.1 hi').1
          exact this
        exact ⟨xs[i]'(by omega), by rw [hf i f hi']; exact List.getElem?_eq_getElem (by omega)⟩) rfl
      refine ⟨ds, r, hl, ?_⟩
      unfold typC; rw [hu]; exact t'
    · cases h

/-- An argument of a law stands for a datum of its type. -/
theorem opensV {r : Reach} {b0 n : Nat} {t : TypeId} {v : Value} {d : DataW H} {ps : List MemPlace} (hd : dataOk P n t = true) (hv : Value.okWide P w r b0 t v)
    (h : DataW.Trod enc P w base spare held t v d ps) : ∃ x, typD P n t x ∧ DRep w nofr v x := by
  obtain ⟨fuel, hf⟩ := h
  obtain ⟨ds, ⟨hl, hr⟩, hc, ht⟩ := opens n fuel t _ _ hd hf
  refine ⟨mkD P t ds, ⟨ds, ht, rfl⟩, ?_⟩
  cases n with
  | zero => exact ht.elim
  | succ n =>
    unfold typC at ht
    unfold mkD
    split at ht
    · rename_i hu; rw [hu]
      obtain ⟨b, rfl⟩ := ht
      obtain ⟨b', rfl⟩ := okWide_bool hu hv
      exact (hr 0 _ _ rfl rfl).2
    · rename_i k hu; rw [hu]
      obtain ⟨i, rfl, _⟩ := ht
      obtain ⟨b', rfl⟩ := okWide_int hu hv
      exact (hr 0 _ _ rfl rfl).2
    · rename_i hu; rw [hu]
      obtain ⟨i, rfl, _⟩ := ht
      obtain ⟨b', rfl⟩ := okWide_string hu hv
      exact (hr 0 _ _ rfl rfl).2
    · rename_i e hu; rw [hu]
      obtain ⟨i, rfl, _⟩ := ht
      obtain ⟨a', l', c', rfl⟩ := okWide_slice hu hv
      exact (hr 0 _ _ rfl rfl).2
    · rename_i fs hu; rw [hu]
      obtain ⟨cs, rfl, _⟩ := okWide_struct hu hv
      have e1 : (Value.agg cs).cells.toList = cs.toList := rfl
      rw [e1] at hr hl
      have := DRep.agg (w := w) (fr := nofr) cs.toList ds hl.symm (fun u hm => ?_) (fun k u p hu hp => (hr k u p hu hp).2)
      · simpa using this
      · obtain ⟨k, hk⟩ := List.mem_iff_getElem?.1 hm
        have hkl : k < ds.length := by rw [hl]; exact (List.getElem?_eq_some_iff.1 hk).1
        exact (hr k u _ hk (List.getElem?_eq_getElem hkl)).1
    · exact ht.elim

theorem GOk.free {w : World} (h : (List.range P.globals.size).all (fun g => (gCells P g).isNone) = true) : GOk P w := by
  intro g cs hg
  exfalso
  by_cases hl : g < P.globals.size
  · have := List.all_eq_true.1 h g (List.mem_range.2 hl)
    rw [hg] at this
    cases this
  · unfold gCells at hg
    rw [Array.getElem?_eq_none (by omega)] at hg
    cases hg

/-- A law's contract, in memory. -/
theorem Holds.walk {f : FuncId} {args : List DV} {r : Bool} (h : Holds P f (args.map .d) (.d (.bool r)) (fun _ => false)) {vs : Array Value} {w : World} (hl : vs.size = args.length)
    (hg : GOk P w) (hv : ∀ (i : Nat) (v : Value) (p : DV), vs[i]? = some v → args[i]? = some p → DRep w nofr v p) :
    Calls P f vs w fun e w' => e = .returned (.bool r) ∧ Below w.heap.size w w' := by
  obtain ⟨_, _, h⟩ := h
  refine (h vs w nofr (by simpa using hl) (by simp [nofr]) hg (fun i v p hvi hp => ?_)).mono ?_
  · rw [List.getElem?_map, Option.map_eq_some_iff] at hp
    obtain ⟨x, hx, rfl⟩ := hp
    exact .d _ _ (hv i v x hvi hx)
  · rintro e w' ⟨v, fr', S', β', rfl, hS, hr, _⟩
    have hx := hS.freshOf
    have h0 := hS.vals 0
    rw [hr] at h0
    have h1 := inv_d h0
    have : v = .bool r := by
      have e0 : (res v).tmps.getD 0 undef = v := rfl
      rw [e0] at h1
      generalize hg : DV.bool r = y at h1
      cases h1 <;> simp_all
    subst this
    exact ⟨rfl, hx.os, hx.tape, hx.output, hx.size, fun k hk => hx.old k hk⟩
end

end BoEng

/- The program's own kinds of data, as plain structures. -/
namespace BoEng
open Go Go.RowKit

def byteD (b : UInt8) : DV := .int .u8 b.toNat
@[simp] theorem cells_byteD (b : UInt8) : cells (byteD b) = [.int .u8 b.toNat] := rfl
@[simp] theorem byteD_eq (b : UInt8) : byteD b = .int .u8 b.toNat := rfl
def intD (n : Int) : DV := .int .i64 n
@[simp] theorem intD_eq (n : Int) : intD n = .int .i64 n := rfl
def bytesD (l : List UInt8) : DV := .slice (l.map byteD)
@[simp] theorem bytesD_eq (l : List UInt8) : bytesD l = .slice (l.map byteD) := rfl

structure Opt where
  code : Int
  data : List UInt8
  deriving Inhabited, DecidableEq
def Opt.d (o : Opt) : DV := .agg [.int .i64 o.code, .slice (o.data.map byteD)]
@[simp] theorem Opt.d_eq (o : Opt) : o.d = .agg [.int .i64 o.code, .slice (o.data.map byteD)] := rfl

structure Msg where
  op : Int
  htype : Int
  hlen : Int
  hops : Int
  xid : Int
  secs : Int
  flags : Int
  ci : Int
  yi : Int
  si : Int
  gi : Int
  chaddr : List UInt8
  opts : List Opt
  deriving Inhabited, DecidableEq
def Msg.d (m : Msg) : DV := .agg [.int .i64 m.op, .int .i64 m.htype, .int .i64 m.hlen, .int .i64 m.hops, .int .i64 m.xid, .int .i64 m.secs, .int .i64 m.flags, .int .i64 m.ci, .int .i64 m.yi, .int .i64 m.si, .int .i64 m.gi,
  .slice (m.chaddr.map byteD), .slice (m.opts.map Opt.d)]
@[simp] theorem Msg.d_eq (m : Msg) : m.d = .agg [.int .i64 m.op, .int .i64 m.htype, .int .i64 m.hlen, .int .i64 m.hops, .int .i64 m.xid, .int .i64 m.secs, .int .i64 m.flags, .int .i64 m.ci, .int .i64 m.yi, .int .i64 m.si, .int .i64 m.gi,
  .slice (m.chaddr.map byteD), .slice (m.opts.map Opt.d)] := rfl

/-- In the range of a whole number. -/
def inI (n : Int) : Prop := -9223372036854775808 ≤ n ∧ n ≤ 9223372036854775807
theorem inI_of {n : Int} (h : (Lit.int .i64 n).wf = true) : inI n := by
  have : IntKind.min .i64 = -9223372036854775808 ∧ IntKind.max .i64 = 9223372036854775807 := ⟨rfl, rfl⟩
  simp [Lit.wf] at h
  unfold inI
  omega

section
variable {P : Program}
theorem typC_int {n t : Nat} {ds : List DV} (hu : P.underlying t = some (.int .i64)) (h : typC P n t ds) : ∃ i, ds = [.int .i64 i] ∧ inI i := by
  cases n with
  | zero => exact h.elim
  | succ n =>
    unfold typC at h
    rw [hu] at h
    obtain ⟨i, rfl, hw⟩ := h
    exact ⟨i, rfl, inI_of hw⟩
theorem typC_u8 {n t : Nat} {ds : List DV} (hu : P.underlying t = some (.int .u8)) (h : typC P n t ds) : ∃ b : UInt8, ds = [byteD b] := by
  cases n with
  | zero => exact h.elim
  | succ n =>
    unfold typC at h
    rw [hu] at h
    obtain ⟨i, rfl, hw⟩ := h
    have : IntKind.min .u8 = 0 ∧ IntKind.max .u8 = 255 := ⟨rfl, rfl⟩
    simp [Lit.wf] at hw
    refine ⟨UInt8.ofNat i.toNat, ?_⟩
    simp
    omega
theorem typC_bool {n t : Nat} {ds : List DV} (hu : P.underlying t = some .bool) (h : typC P n t ds) : ∃ b, ds = [.bool b] := by
  cases n with
  | zero => exact h.elim
  | succ n =>
    unfold typC at h
    rw [hu] at h
    exact h
theorem typC_str {n t : Nat} {ds : List DV} (hu : P.underlying t = some .string) (h : typC P n t ds) : ∃ s : List UInt8, ds = [.str s] ∧ s.length ≤ maxLen := by
  cases n with
  | zero => exact h.elim
  | succ n =>
    unfold typC at h
    rw [hu] at h
    exact h
/-- A slice of what is of a kind. -/
theorem typC_slice {α : Type} {n t e : Nat} {ds : List DV} {f : α → DV} {Q : α → Prop} (hu : P.underlying t = some (.slice e)) (hf : ∀ n ds, typC P n e ds → ∃ a, mkD P e ds = f a ∧ Q a) (h : typC P n t ds) :
    ∃ l : List α, ds = [.slice (l.map f)] ∧ l.length ≤ maxLen ∧ ∀ a ∈ l, Q a := by
  cases n with
  | zero => exact h.elim
  | succ n =>
    unfold typC at h
    rw [hu] at h
    obtain ⟨xs, rfl, hl, hx⟩ := h
    have : ∃ l : List α, xs = l.map f ∧ ∀ a ∈ l, Q a := by
      clear hl
      induction xs with
      | nil => exact ⟨[], rfl, by simp⟩
      | cons x xs ih =>
        obtain ⟨l, rfl, hq⟩ := ih fun y hy => hx y (List.mem_cons_of_mem _ hy)
        obtain ⟨ds, hd, rfl⟩ := hx x List.mem_cons_self
        obtain ⟨a, ha, hqa⟩ := hf n ds hd
        refine ⟨a :: l, by rw [ha]; rfl, fun b hb => ?_⟩
        rcases List.mem_cons.1 hb with rfl | hb
        · exact hqa
        · exact hq b hb
    obtain ⟨l, rfl, hq⟩ := this
    exact ⟨l, rfl, by simpa using hl, hq⟩
theorem typC_bytes {n t e : Nat} {ds : List DV} (hu : P.underlying t = some (.slice e)) (he : P.underlying e = some (.int .u8)) (h : typC P n t ds) : ∃ l : List UInt8, ds = [.slice (l.map byteD)] ∧ l.length ≤ maxLen := by
  obtain ⟨l, h1, h2, _⟩ := typC_slice (f := byteD) (Q := fun _ => True) hu (fun n ds h => by
    obtain ⟨b, rfl⟩ := typC_u8 he h
    exact ⟨b, by simp [mkD, he], trivial⟩) h
  exact ⟨l, h1, h2⟩
theorem typC_ints {n t e : Nat} {ds : List DV} (hu : P.underlying t = some (.slice e)) (he : P.underlying e = some (.int .i64)) (h : typC P n t ds) : ∃ l : List Int, ds = [.slice (l.map intD)] ∧ l.length ≤ maxLen ∧ ∀ i ∈ l, inI i := by
  obtain ⟨l, h1, h2, h3⟩ := typC_slice (f := intD) (Q := inI) hu (fun n ds h => by
    obtain ⟨b, rfl, hb⟩ := typC_int he h
    exact ⟨b, by simp [mkD, he], hb⟩) h
  exact ⟨l, h1, h2, h3⟩
end
end BoEng

/- The rules of reckoning, second part: each without a side condition, so that what is stuck shows. -/
namespace BoEng
open Go Go.RowKit

section
variable {P : Program} {tr : List Nat} {S : PS} {K : PS → Prop} {Q : PS → Prop} {l : List CO}

@[simp] theorem start_t {args : List PV} {i : Nat} : (PS.start args).t i = args.getD i .undef := rfl
@[simp] theorem start_box {args : List PV} {i : Nat} : (PS.start args).box i = [] := rfl
@[simp] theorem start_gen {args : List PV} {i : Nat} : (PS.start args).gen i = 0 := rfl
@[simp] theorem start_fo {args : List PV} : (PS.start args).fo = FO := rfl
@[simp] theorem startB_t {fo : Nat} {gl : Nat → Nat} {args : List PV} {pre : List Upd} {i : Nat} : (PS.startB fo gl args pre).t i = args.getD i .undef := rfl
@[simp] theorem startB_box {fo : Nat} {gl : Nat → Nat} {args : List PV} {pre : List Upd} {n : Nat} : (PS.startB fo gl args pre).box n = updC pre n [] := updC_eq.symm
@[simp] theorem startB_gen {fo : Nat} {gl : Nat → Nat} {args : List PV} {pre : List Upd} {n : Nat} : (PS.startB fo gl args pre).gen n = updG pre n (gl n) := updG_eq.symm
@[simp] theorem startB_fo {fo : Nat} {gl : Nat → Nat} {args : List PV} {pre : List Upd} : (PS.startB fo gl args pre).fo = fo := rfl
@[simp] theorem startB_ownt {fo : Nat} {gl : Nat → Nat} {args : List PV} {pre : List Upd} {i j : Nat} : (PS.startB fo gl args pre).own (.t i j) = false := rfl
@[simp] theorem startB_ownb {fo : Nat} {gl : Nat → Nat} {args : List PV} {pre : List Upd} {n k : Nat} : (PS.startB fo gl args pre).own (.b n k) = updO pre n k false := updO_eq.symm
@[simp] theorem start_own {args : List PV} {i : Loc} : (PS.start args).own i = false := rfl
@[simp] theorem getD_cons0 {α : Type} {x d : α} {l : List α} : (x :: l).getD 0 d = x := rfl
@[simp] theorem getD_consS {α : Type} {x d : α} {l : List α} {n : Nat} : (x :: l).getD (n + 1) d = l.getD n d := rfl
@[simp] theorem getD_nil' {α : Type} {d : α} {n : Nat} : ([] : List α).getD n d = d := by simp

@[simp] theorem pcells_d {x : DV} : pcells (.d x) = some ((cells x).map .d) := rfl
@[simp] theorem pcells_ptr {n g o : Nat} : pcells (.ptr n g o) = some [.ptr n g o] := rfl
@[simp] theorem pcells_bsl {n g o z : Nat} {a : Bool} : pcells (.bsl n g o z a) = some [.bsl n g o z a] := rfl
@[simp] theorem pcells_pa {cs : List PV} : pcells (.pa cs) = some cs := rfl
@[simp] theorem pcells_cptr {cs : List DV} : pcells (.cptr cs) = some [.cptr cs] := rfl
@[simp] theorem pcells_f0 {f : FuncId} : pcells (.fn f []) = some [.d (.opq (.func (.func f) #[] #[]))] := rfl
@[simp] theorem pcells_f1 {f : FuncId} {x : PV} {c : List PV} : pcells (.fn f (x :: c)) = some [.fn f (x :: c)] := rfl
@[simp] theorem pcells_bm {f : FuncId} {c : List DV} : pcells (.bm f c) = some [.bm f c] := rfl
@[simp] theorem fnOf_fn {f : FuncId} {c : List PV} : fnOf (.fn f c) = some (f, c) := rfl
@[simp] theorem fnOf_opq {f : FuncId} : fnOf (.d (.opq (.func (.func f) #[] #[]))) = some (f, []) := rfl
@[simp] theorem toD_nil : toD [] = some [] := rfl
@[simp] theorem toD_cons {x : DV} {r : List PV} : toD (.d x :: r) = (toD r).map (x :: ·) := rfl
@[simp] theorem toD_map {α : Type} {f : α → DV} {l : List α} : toD (l.map fun x => .d (f x)) = some (l.map f) := by
  induction l with
  | nil => rfl
  | cons x l ih => simp [ih]
@[simp] theorem toD_bsl {n g o z : Nat} {a : Bool} {r : List PV} : toD (.bsl n g o z a :: r) = none := rfl
@[simp] theorem toD_ptr {n g o : Nat} {r : List PV} : toD (.ptr n g o :: r) = none := rfl
@[simp] theorem toD_cptr {c : List DV} {r : List PV} : toD (.cptr c :: r) = none := rfl
@[simp] theorem toD_fn {f : FuncId} {c r : List PV} : toD (.fn f c :: r) = none := rfl
@[simp] theorem toD_rep {x : DV} : ∀ {n : Nat}, toD (List.replicate n (PV.d x)) = some (List.replicate n x)
  | 0 => rfl
  | n + 1 => by simp [List.replicate_succ, toD_rep]
@[simp] theorem frzL_nil : frzL S [] = some ([], []) := rfl
@[simp] theorem frzL_d {x : DV} {r : List PV} : frzL S (.d x :: r) = (frzL S r).map fun y => (x :: y.1, y.2) := by
  simp only [frzL, frzC, Option.bind_some, List.nil_append]
@[simp] theorem frzL_b {n g len sz : Nat} {ag : Bool} {r : List PV} : frzL S (.bsl n g len sz ag :: r) = (thawB (S.gen n) (S.box n) g len sz ag).bind fun xs => (frzL S r).map fun y => (.slice xs :: y.1, n :: y.2) := by
  simp only [frzL, frzC, thawed_B]
  cases thawB (S.gen n) (S.box n) g len sz ag <;> rfl
@[simp] theorem toD_map' {l : List DV} : toD (l.map .d) = some l := by simpa using toD_map (f := fun x => x) (l := l)

attribute [simp] fieldAddrV fieldV lenV loadV partD partP mkA thawB over convertV cvS isU8
@[simp] theorem wrapI_byte (b : UInt8) : IntKind.i64.wrap ((b.toNat : Nat) : Int) = (b.toNat : Nat) := by have := b.toNat_lt; exact wrap_in (by omega)
@[simp] theorem wrapB_byte (b : UInt8) : IntKind.u8.wrap ((b.toNat : Nat) : Int) = (b.toNat : Nat) := by have := b.toNat_lt; exact wrap_u8 (by omega)
@[simp] theorem toBytes_nil : toBytes [] = some [] := rfl
@[simp] theorem toBytes_map : ∀ (l : List UInt8), toBytes (l.map byteD) = some l
  | [] => rfl
  | b :: l => by
    simp only [List.map_cons, byteD, toBytes, toBytes_map l, Option.map_some]
    simp
@[simp] theorem toBytes_map2 (l : List UInt8) : toBytes (l.map fun b => DV.int .u8 b.toNat) = some l := toBytes_map l
@[simp] theorem toBytes_cons {n : Int} {r : List DV} : toBytes (.int .u8 n :: r) = (toBytes r).map (UInt8.ofNat n.toNat :: ·) := rfl

/-- A field is set. -/
def bld (P : Program) (f : Option (Nat × Nat)) (x : Option (List PV)) (cs : List PV) (k : List PV → Option (List PV)) : Option (List PV) :=
  match f, x with
  | some (off, ft), some vs => if vs.length = szT P ft ∧ off + vs.length ≤ cs.length then k (cs.take off ++ vs ++ cs.drop (off + vs.length)) else none
  | _, _ => none
@[simp] theorem bld_d {off ft : Nat} {vs cs : List PV} {k : List PV → Option (List PV)} : bld P (some (off, ft)) (some vs) cs k = if vs.length = szT P ft ∧ off + vs.length ≤ cs.length then k (cs.take off ++ vs ++ cs.drop (off + vs.length)) else none := rfl
@[simp] theorem buildP_c {t i : Nat} {x : Operand} {r : List (Nat × Operand)} {cs : List PV} : buildP P S t ((i, x) :: r) cs = bld P (fldT P t i) (pcells (S.ev x)) cs (buildP P S t r) := by
  rw [buildP]
  cases fldT P t i with
  | none => rfl
  | some q =>
    obtain ⟨off, ft⟩ := q
    cases pcells (S.ev x) <;> rfl
def elm (sz : Nat) (x : PV) (k : Option (List DV)) : Option (List DV) := match x with | .d v => if (cells v).length = sz then k.map (v :: ·) else none | _ => none
@[simp] theorem elm_d {sz : Nat} {v : DV} {k : Option (List DV)} : elm sz (.d v) k = if (cells v).length = sz then k.map (v :: ·) else none := rfl
@[simp] theorem elemsD_c {sz k i : Nat} {x : Operand} {r : List (Nat × Operand)} : elemsD S sz k ((i, x) :: r) = if i = k then elm sz (S.ev x) (elemsD S sz (k + 1) r) else none := by
  rw [elemsD]
  cases S.ev x with
  | d v =>
    simp only [elm]
    by_cases h1 : i = k
    · by_cases h2 : (cells v).length = sz <;> simp [h1, h2]
    · by_cases h2 : (cells v).length = sz <;> simp [h1]
  | _ => simp [elm]
def bslC (P : Program) (t : Nat) (n : Nat) : Bool := match elT P t with | some e => decide (n * szT P e ≤ 16777216 ∧ 0 < szT P e) && (zeroT P e).isSome | none => false
def bslZ (P : Program) (t : Nat) : Bool := match elT P t with | some e => decide (0 < szT P e) && (zeroT P e).isSome | none => false
@[simp] theorem bslC_z {t n : Nat} : bslC P t n = (decide (n * eSz P t ≤ 16777216) && bslZ P t) := by
  unfold bslC bslZ eSz
  cases elT P t with
  | none => simp
  | some e =>
    simp only
    by_cases h1 : n * szT P e ≤ 16777216 <;> by_cases h2 : 0 < szT P e <;> simp [h1, h2]
@[simp] theorem buildSliceV_c {t len : Nat} {ps : List (Nat × Operand)} : buildSliceV P S t len ps = if ps.length = len ∧ bslC P t len = true then (elemsD S (eSz P t) 0 ps).map fun xs => (.d (.slice xs), true) else none := by
  unfold buildSliceV bslC eSz
  cases elT P t with
  | none => simp
  | some e =>
    simp only [Bool.and_eq_true, decide_eq_true_eq]
    by_cases h : ps.length = len ∧ len * szT P e ≤ 16777216 ∧ 0 < szT P e ∧ (zeroT P e).isSome = true
    · rw [if_pos h, if_pos ⟨h.1, ⟨h.2.1, h.2.2.1⟩, h.2.2.2⟩]
    · rw [if_neg h, if_neg (fun k => h ⟨k.1, k.2.1.1, k.2.1.2, k.2.2⟩)]

@[simp] theorem isCst_c {c : List DV} : isCst (.cptr c) = true := rfl
@[simp] theorem isCst_d {c : DV} : isCst (.d c) = true := rfl
attribute [simp] csG fpG fpT atBox mget mput keyEq insS lkV
@[simp] theorem cmOk_c {fo : Nat} {c : List DV} : cmOk tr fo (.cptr c) = true := rfl
@[simp] theorem cmOk_d {fo : Nat} {c : DV} : cmOk tr fo (.d c) = true := rfl
@[simp] theorem cmOk_p {fo n g k : Nat} : cmOk tr fo (.ptr n g k) = nws tr fo n := rfl
@[simp] theorem cmOk_b {fo n g l z : Nat} {a : Bool} : cmOk tr fo (.bsl n g l z a) = nws tr fo n := rfl
@[simp] theorem clOk_c {fo : Nat} {c : List DV} : clOk tr fo (.cptr c) = true := rfl
@[simp] theorem clOk_d {fo : Nat} {c : DV} : clOk tr fo (.d c) = true := rfl
@[simp] theorem clOk_p {fo n g k : Nat} : clOk tr fo (.ptr n g k) = !nws tr fo n := rfl
@[simp] theorem clOk_b {fo n g l z : Nat} {a : Bool} : clOk tr fo (.bsl n g l z a) = !nws tr fo n := rfl
attribute [simp] nws
/-- A place in a slice. -/
@[simp] theorem indexAddrV_m {α : Type} [Inhabited α] {t : Nat} {gen : Nat → Nat} {box : Nat → List PV} {enc : α → DV} {xs : List α} {k : IntKind} {i : Int} (hs : ∀ x, (cells (enc x)).length = eSz P t) (hp : 0 < eSz P t) (h0 : 0 ≤ i) (h1 : i < xs.length) :
    indexAddrV P t gen box (.d (.slice (xs.map enc))) (.d (.int k i)) = some (.cptr (cells (enc (nth xs i))), false) := by
  unfold eSz at hs hp
  cases he : elT P t with
  | none => rw [he] at hp; simp at hp
  | some e =>
    rw [he] at hs hp
    exact indexAddrV_map he hs hp h0 h1
@[simp] theorem indexAddrV_b {t n g len sz : Nat} {ag : Bool} {gen : Nat → Nat} {box : Nat → List PV} {k : IntKind} {i : Int} (hs : eSz P t = sz) (hsz : 0 < sz) (h0 : 0 ≤ i) (h1 : i < len) (hg : g = gen n) (hb : len * sz ≤ (box n).length) :
    indexAddrV P t gen box (.bsl n g len sz ag) (.d (.int k i)) = some (.ptr n g (i.toNat * sz), false) := by
  unfold eSz at hs
  cases he : elT P t with
  | none => rw [he] at hs; simp at hs; omega
  | some e =>
    rw [he] at hs
    exact indexAddrV_bsl he hs h0 h1 hg hb
/-- A place in a slice of cells, told without a kind. -/
theorem indexAddrV_n {t : Nat} {gen : Nat → Nat} {box : Nat → List PV} {xs : List DV} {k : IntKind} {n : Nat} : indexAddrV P t gen box (.d (.slice xs)) (.d (.int k (n : Nat))) =
    (match elT P t, xs[n]? with | some e, some x => if (cells x).length = szT P e ∧ 0 < szT P e then some (.cptr (cells x), false) else none | _, _ => none) := by
  unfold indexAddrV
  cases elT P t with
  | none => rfl
  | some e =>
    simp only
    by_cases h : n < xs.length
    · rw [if_pos (by omega)]
      simp [List.getElem?_eq_getElem h]
    · rw [if_neg (by omega), List.getElem?_eq_none (by omega)]
def idxC (P : Program) (t : Nat) (x : Option DV) : Option (PV × Bool) := match x with | some x => if (cells x).length = eSz P t ∧ 0 < eSz P t then some (.cptr (cells x), false) else none | none => none
@[simp] theorem idxC_s {t : Nat} {x : DV} : idxC P t (some x) = if (cells x).length = eSz P t ∧ 0 < eSz P t then some (.cptr (cells x), false) else none := rfl
theorem indexAddrV_lit {t : Nat} {gen : Nat → Nat} {box : Nat → List PV} {xs : List DV} {k : IntKind} (n : Nat) : indexAddrV P t gen box (.d (.slice xs)) (.d (.int k (n : Nat))) = idxC P t xs[n]? := by
  rw [indexAddrV_n]
  unfold idxC eSz
  cases elT P t with
  | none => cases xs[n]? <;> simp
  | some e => cases xs[n]? <;> rfl
@[simp] theorem indexAddrV_0 {t : Nat} {gen : Nat → Nat} {box : Nat → List PV} {x : DV} {xs : List DV} {k : IntKind} : indexAddrV P t gen box (.d (.slice (x :: xs))) (.d (.int k 0)) = idxC P t (some x) := indexAddrV_lit 0
@[simp] theorem indexAddrV_1 {t : Nat} {gen : Nat → Nat} {box : Nat → List PV} {x y : DV} {xs : List DV} {k : IntKind} : indexAddrV P t gen box (.d (.slice (x :: y :: xs))) (.d (.int k 1)) = idxC P t (some y) := indexAddrV_lit 1
@[simp] theorem indexAddrV_2 {t : Nat} {gen : Nat → Nat} {box : Nat → List PV} {x y z : DV} {xs : List DV} {k : IntKind} : indexAddrV P t gen box (.d (.slice (x :: y :: z :: xs))) (.d (.int k 2)) = idxC P t (some z) := indexAddrV_lit 2
@[simp] theorem indexAddrV_3 {t : Nat} {gen : Nat → Nat} {box : Nat → List PV} {x y z u : DV} {xs : List DV} {k : IntKind} : indexAddrV P t gen box (.d (.slice (x :: y :: z :: u :: xs))) (.d (.int k 3)) = idxC P t (some u) := indexAddrV_lit 3
@[simp] theorem indexAddrV_4 {t : Nat} {gen : Nat → Nat} {box : Nat → List PV} {x y z u v : DV} {xs : List DV} {k : IntKind} : indexAddrV P t gen box (.d (.slice (x :: y :: z :: u :: v :: xs))) (.d (.int k 4)) = idxC P t (some v) := indexAddrV_lit 4
@[simp] theorem indexV_s {t : Nat} {s : List UInt8} {k : IntKind} {i : Int} (ht : P.underlying t = some .string) (h0 : 0 ≤ i) (h1 : i < s.length) : indexV P t (.d (.str s)) (.d (.int k i)) = some (.d (.int .u8 (nth s i).toNat), false) := indexV_str ht h0 h1

end
end BoEng

/- The rules of reckoning, third part: states in a first-order form. -/
namespace BoEng
open Go Go.RowKit

section
variable {P : Program} {tr : List Nat} {S : PS} {K : PS → Prop} {Q : PS → Prop} {l : List CO}

theorem nth_nat {α : Type} [Inhabited α] {l : List α} {i : Nat} (h : i < l.length) : nth l (i : Int) = l[i] := by
  simp [nth, List.getD_eq_getElem?_getD, List.getElem?_eq_getElem h]
@[simp] theorem isNilV_int {k : IntKind} {n : Int} : isNilV (.int k n) = false := rfl
@[simp] theorem isNilV_bool {b : Bool} : isNilV (.bool b) = false := rfl
@[simp] theorem isNilV_str {b : ByteArray} : isNilV (.string b) = false := rfl
@[simp] theorem isNilV_nil : isNilV (.slice none 0 0) = true := rfl

@[simp] theorem ptrFree_d {x : DV} : ptrFree (.d x) = true := rfl
@[simp] theorem ptrFree_c {x : List DV} : ptrFree (.cptr x) = true := rfl
@[simp] theorem ptrFree_f {f : FuncId} {cs : List PV} : ptrFree (.fn f cs) = cs.all flatP := rfl
@[simp] theorem isFnT_f {a b : Array TypeId} {c : Bool} : isFnT (some (.func a b c)) = true := rfl
@[simp] theorem ptrFree_b {f : FuncId} {c : List DV} : ptrFree (.bm f c) = true := rfl
@[simp] theorem flatP_d {x : DV} : flatP (.d x) = true := rfl
@[simp] theorem flatP_c {x : List DV} : flatP (.cptr x) = true := rfl

/-! ### Structs compared -/
def eqV2 (k : Nat) (x y : Option DV) : Option Bool :=
  match k, x, y with
  | 0, some (.int k a), some (.int k' b) => if k = k' then some (decide (a = b)) else none
  | 1, some (.bool a), some (.bool b) => some (a == b)
  | 2, some (.str a), some (.str b) => some (decide (a = b))
  | _, _, _ => none
@[simp] theorem eqV2_i {k : IntKind} {a b : Int} : eqV2 0 (some (.int k a)) (some (.int k b)) = some (decide (a = b)) := by simp [eqV2]
@[simp] theorem eqV2_b {a b : Bool} : eqV2 1 (some (.bool a)) (some (.bool b)) = some (a == b) := rfl
@[simp] theorem eqV2_s {a b : List UInt8} : eqV2 2 (some (.str a)) (some (.str b)) = some (decide (a = b)) := rfl
def eqL : List (Nat × Nat) → List DV → List DV → Option Bool
  | [], _, _ => some true
  | (o, k) :: r, xs, ys => (eqV2 k xs[o]? ys[o]?).bind fun b => (eqL r xs ys).map fun r => b && r
@[simp] theorem eqL_nil {xs ys : List DV} : eqL [] xs ys = some true := rfl
@[simp] theorem eqL_cons {o k : Nat} {r : List (Nat × Nat)} {xs ys : List DV} : eqL ((o, k) :: r) xs ys = (eqV2 k xs[o]? ys[o]?).bind fun b => (eqL r xs ys).map fun r => b && r := rfl
def kindN : Option TypeDesc → Option Nat
  | some (.int _) => some 0
  | some .bool => some 1
  | some .string => some 2
  | _ => none
def eqFs (P : Program) : List Field → Option (List (Nat × Nat))
  | [] => some []
  | f :: fs => if f.name = "_" then none else (kindN (P.underlying f.type)).bind fun k => (eqFs P fs).map ((f.offset, k) :: ·)
def eqS (P : Program) (t : TypeId) : Option (List (Nat × Nat)) :=
  match P.underlying t with
  | some (.struct fs) => if eqOk P t then eqFs P fs.toList else none
  | _ => none
theorem eqV_i {k : IntKind} {a b : Option DV} : eqV (some (.int k)) a b = eqV2 0 a b := by
  rcases a with _ | (_ | _ | _ | _ | _ | _) <;> rcases b with _ | (_ | _ | _ | _ | _ | _) <;> rfl
theorem eqV_b {a b : Option DV} : eqV (some .bool) a b = eqV2 1 a b := by
  rcases a with _ | (_ | _ | _ | _ | _ | _) <;> rcases b with _ | (_ | _ | _ | _ | _ | _) <;> rfl
theorem eqV_s {a b : Option DV} : eqV (some .string) a b = eqV2 2 a b := by
  rcases a with _ | (_ | _ | _ | _ | _ | _) <;> rcases b with _ | (_ | _ | _ | _ | _ | _) <;> rfl
theorem eqF_L : ∀ (fs : List Field) (ks : List (Nat × Nat)) (xs ys : List DV), eqFs P fs = some ks → eqF P xs ys fs = eqL ks xs ys
  | [], ks, xs, ys, h => by simp [eqFs] at h; subst h; rfl
  | f :: fs, ks, xs, ys, h => by
    simp only [eqFs] at h
    split at h
    · cases h
    · rename_i hn
      simp only [Option.bind_eq_some_iff, Option.map_eq_some_iff] at h
      obtain ⟨k, hk, r, hr, rfl⟩ := h
      simp only [eqF, if_neg hn, eqL, eqF_L fs r xs ys hr]
      congr 1
      unfold kindN at hk
      split at hk
      · rename_i hu; cases hk; rw [hu]; exact eqV_i
      · rename_i hu; cases hk; rw [hu]; exact eqV_b
      · rename_i hu; cases hk; rw [hu]; exact eqV_s
      · cases hk
theorem eqA_L {t : TypeId} {ks : List (Nat × Nat)} {xs ys : List DV} (h : eqS P t = some ks) : eqA P t xs ys = eqL ks xs ys := by
  unfold eqS at h
  unfold eqA
  split at h
  · rename_i fs hu
    split at h
    · rename_i ho
      rw [hu]
      simp only [if_pos ho]
      exact eqF_L fs.toList ks xs ys h
    · cases h
  · cases h
def eqSA (P : Program) (t : TypeId) (xs ys : List DV) (q : Option (List (Nat × Nat))) : Option Bool := match q with | some ks => eqL ks xs ys | none => eqA P t xs ys
@[simp] theorem eqSA_s {t : TypeId} {xs ys : List DV} {ks : List (Nat × Nat)} : eqSA P t xs ys (some ks) = eqL ks xs ys := rfl
theorem eqA_SA {t : TypeId} {xs ys : List DV} : eqA P t xs ys = eqSA P t xs ys (eqS P t) := by
  unfold eqSA
  cases h : eqS P t with
  | none => rfl
  | some ks => exact eqA_L h
def bool1 (b : Bool) : PV := .d (.bool b)
@[simp] theorem bool1_eq {b : Bool} : bool1 b = .d (.bool b) := rfl
def bool0 (b : Bool) : PV := .d (.bool (!b))
@[simp] theorem bool0_eq {b : Bool} : bool0 b = .d (.bool (!b)) := rfl
@[simp] theorem pbin_sq {t : TypeId} {a b : List DV} : pbin P .eql t (.d (.agg a)) (.d (.agg b)) = (eqSA P t a b (eqS P t)).map bool1 := by rw [← eqA_SA]; rfl
@[simp] theorem pbin_sn {t : TypeId} {a b : List DV} : pbin P .neq t (.d (.agg a)) (.d (.agg b)) = (eqSA P t a b (eqS P t)).map bool0 := by rw [← eqA_SA]; rfl

/-! ### Rounds -/
theorem least {p : Nat → Prop} : ∀ n, p n → ∃ m, p m ∧ ∀ k, p k → m ≤ k := by
  intro n
  induction n using Nat.strongRecOn with
  | ind n ih =>
    intro h
    by_cases hk : ∃ k, k < n ∧ p k
    · obtain ⟨k, hlt, hp⟩ := hk
      exact ih k hlt hp
    · exact ⟨n, h, fun k hp => Nat.le_of_not_lt fun hlt => hk ⟨k, hlt, hp⟩⟩
theorem rwc_mono {Q Q' : PS → Prop} (h : ∀ S, Q S → Q' S) : ∀ {l : List CO} {S : PS}, rwc P tr l Q S → rwc P tr l Q' S
  | [], S, hr => h S hr
  | c :: l, S, hr => by
    unfold rwc at hr ⊢
    cases hg : c.g with
    | none =>
      rw [hg] at hr
      exact owp_mono (fun S => rwc_mono h) hr
    | some q =>
      obtain ⟨j, w⟩ := q
      rw [hg] at hr
      simp only at hr ⊢
      split at hr
      · rename_i hc
        rw [if_pos hc]
        exact owp_mono (fun S => rwc_mono h) hr
      · rename_i hc
        rw [if_neg hc]
        exact rwc_mono h hr
theorem pwc_mono {c : CC} : ∀ {Q Q' : Exit → PS → Prop} {S : PS}, (∀ e S, Q e S → Q' e S) → pwc P tr c Q S → pwc P tr c Q' S := by
  induction c with
  | skip => intro Q Q' S h hc; exact h _ _ hc
  | reg l => intro Q Q' S h hc; exact rwc_mono (fun S => h _ S) hc
  | seq a b iha ihb =>
    intro Q Q' S h hc
    refine iha (fun e S' hS => ?_) hc
    cases e with
    | normal => exact ihb h hS
    | _ => exact h _ _ hS
  | cond c a b iha ihb =>
    intro Q Q' S h hc
    simp only [pwc] at hc ⊢
    split at hc
    · rename_i t ht
      split at hc
      · rename_i hh; rw [if_pos hh]; exact iha h hc
      · rename_i hh; rw [if_neg hh]; exact ihb h hc
    · exact hc.elim
  | block id c ih =>
    intro Q Q' S h hc
    refine ih (fun e S' hS => ?_) hc
    cases e with
    | exit j =>
      simp only [blkQ] at hS ⊢
      split at hS
      · rename_i hh; rw [if_pos hh]; exact h _ _ hS
      · rename_i hh; rw [if_neg hh]; exact h _ _ hS
    | _ => exact h _ _ hS
  | loop c ih =>
    intro Q Q' S h hc
    obtain ⟨I, μ, h0, hs⟩ := hc
    refine ⟨I, μ, h0, fun S1 h1 => ih (fun e S' hS => ?_) (hs S1 h1)⟩
    cases e with
    | normal => exact hS
    | _ => exact h _ _ hS
  | exit i => intro Q Q' S h hc; exact h _ _ hc
  | ret => intro Q Q' S h hc; exact h _ _ hc
  | bad => intro Q Q' S h hc; exact hc
theorem opt_if {α : Type} {c : Prop} [Decidable c] {x : α} (h : c) : (if c then some x else none) = some x := if_pos h
theorem dec_t {c : Prop} [Decidable c] (h : c) : decide c = true := decide_eq_true h
theorem dec_f {c : Prop} [Decidable c] (h : ¬ c) : decide c = false := decide_eq_false h
/-- One round more. -/
def nxt {α : Type} (I : α → PS → Prop) (μ : α → Nat) (a : α) (S : PS) : Prop := ∃ a', I a' S ∧ μ a' < μ a
theorem nxt_of {α : Type} {I : α → PS → Prop} {μ : α → Nat} {a : α} {S : PS} (a' : α) (h : I a' S) (hm : μ a' < μ a) : nxt I μ a S := ⟨a', h, hm⟩
theorem lp {α : Type} {c : CC} {Q : Exit → PS → Prop} (I : α → PS → Prop) (μ : α → Nat) (a0 : α) (h0 : I a0 S)
    (hs : ∀ a S, I a S → pwc P tr c (seqQ P (nxt I μ a) Q) S) : pwc P tr (.loop c) Q S := by
  have hm : ∀ (k k' : PS → Prop), (∀ S, k S → k' S) → ∀ S, pwc P tr c (seqQ P k Q) S → pwc P tr c (seqQ P k' Q) S := by
    intro k k' hk S h
    refine pwc_mono (fun e S' hS => ?_) h
    cases e with
    | normal => exact hk _ hS
    | _ => exact hS
  have hmin : ∀ S, (∃ a, I a S) → ∃ m, (∃ a, I a S ∧ μ a = m) ∧ ∀ k, (∃ a, I a S ∧ μ a = k) → m ≤ k := fun S ⟨a, ha⟩ => least (p := fun m => ∃ a, I a S ∧ μ a = m) (μ a) ⟨a, ha, rfl⟩
  have dec : ∀ p : Prop, Decidable p := Classical.propDecidable
  let ν : PS → Nat := fun S => if h : ∃ a, I a S then Classical.choose (hmin S h) else 0
  have hν : ∀ S, (∃ a, I a S) → (∃ a, I a S ∧ μ a = ν S) ∧ ∀ a, I a S → ν S ≤ μ a := by
    intro S h
    have := Classical.choose_spec (hmin S h)
    simp only [ν, dif_pos h]
    exact ⟨this.1, fun a ha => this.2 _ ⟨a, ha, rfl⟩⟩
  refine ⟨fun S => ∃ a, I a S, ν, ⟨a0, h0⟩, fun S1 h1 => ?_⟩
  obtain ⟨⟨a, ha, hμ⟩, _⟩ := hν S1 h1
  refine hm _ _ (fun S' hS' => ?_) S1 (hs a S1 ha)
  obtain ⟨a', ha', hlt⟩ := hS'
  exact ⟨⟨a', ha'⟩, Nat.lt_of_le_of_lt ((hν S' ⟨a', ha'⟩).2 a' ha') (hμ ▸ hlt)⟩

theorem oc {d : Nat} {f : FuncId} {caps : List PV} {x : Operand} {args : List Operand} {ts : Array TypeId} {r : PV} {ro : Nat → Bool} {as : List PV} (hH : Holds P f as r ro) (hK : K (S.cl d r ro)) (hx : fnAt (S.ev x) args.isEmpty = some (f, caps) := by exact rfl) (ha : args.map S.ev ++ caps = as := by exact rfl) (hf : as.all ptrFree = true := by exact rfl) (hc : tr.contains (d + 40000) = false := by exact rfl) :
    ow P tr (some d) (.call ⟨.value x, ⟨args⟩, ts⟩) S K := o_call hx ha hH hf hc hK

/-! ### Ways that meet again -/
def joinQ (I : PS → Prop) (e : Exit) (S : PS) : Prop := e = .normal ∧ I S
@[simp] theorem joinQ_n {I : PS → Prop} : joinQ I .normal S = I S := by simp [joinQ]
theorem cnd_join {t : Bool} {a b : CC} {Q : Exit → PS → Prop} (I : PS → Prop) (h1 : t = true → pwc P tr a (joinQ I) S) (h2 : t = false → pwc P tr b (joinQ I) S) (h : ∀ S', I S' → Q .normal S') : Cnd P tr (.d (.bool t)) a b Q S :=
  cnd_by (fun e => pwc_mono (fun _ S' ⟨he, hI⟩ => he ▸ h S' hI) (h1 e)) (fun e => pwc_mono (fun _ S' ⟨he, hI⟩ => he ▸ h S' hI) (h2 e))

/-! ### Slices that were boxes -/
@[simp] theorem toD_m {xs : List DV} : toD (xs.map PV.d) = some xs := by
  induction xs with
  | nil => rfl
  | cons x xs ih => simp [ih]
@[simp] theorem toD_mf {α : Type} {f : α → DV} {xs : List α} : toD (xs.map (PV.d ∘ f)) = some (xs.map f) := by
  rw [← List.map_map]
  exact toD_m
@[simp] theorem chunk_1 {n : Nat} {xs : List DV} (h : xs.length = n) : chunk 1 false n xs = xs := by
  subst h
  induction xs with
  | nil => rfl
  | cons x xs ih => simp [chunk, ih]

/-! ### What is handed back -/
def finQ (o : Option (List (PV × Bool))) (ns : List Nat) (r : PV) (ro : Nat → Bool) : Prop := ∃ l, o = some l ∧ r = pack l ∧ ns.Nodup ∧ ∀ j, ro j = true → (l.getD j (.any, false)).2 = true
@[simp] theorem finQ_some {l : List (PV × Bool)} {ns : List Nat} {r : PV} {ro : Nat → Bool} : finQ (some l) ns r ro = (r = pack l ∧ ns.Nodup ∧ ∀ j, ro j = true → (l.getD j (.any, false)).2 = true) := by
  simp [finQ]
@[simp] theorem retQ_ret {rs : List ResultVar} {r : PV} {ro : Nat → Bool} : retQ P rs r ro .ret S = finQ (resAll P S rs) (srcsOf S rs) r ro := rfl
@[simp] theorem retQ_n {rs : List ResultVar} {r : PV} {ro : Nat → Bool} : retQ P rs r ro .normal S = finQ (resAll P S rs) (srcsOf S rs) r ro := rfl
@[simp] theorem retQ_e {rs : List ResultVar} {r : PV} {ro : Nat → Bool} {i : Nat} : retQ P rs r ro (.exit i) S = False := rfl
@[simp] theorem resAll_nil : resAll P S [] = some [] := rfl
@[simp] theorem resAll_cons {x : ResultVar} {rs : List ResultVar} : resAll P S (x :: rs) = (resPV P S x).bind fun x => (resAll P S rs).map (x :: ·) := rfl
/-- What is told, all boxes let go. -/
def frzR (S : PS) (r : PV) : Option DV := (frzV S r).map fun x => x.1
@[simp] theorem frzR_d {x : DV} : frzR S (.d x) = some x := rfl
@[simp] theorem frzR_b {n g len sz : Nat} {ag : Bool} : frzR S (.bsl n g len sz ag) = (thawB (S.gen n) (S.box n) g len sz ag).map .slice := by
  simp only [frzR, frzV, frzC, thawed_B]
  cases thawB (S.gen n) (S.box n) g len sz ag <;> rfl
@[simp] theorem frzR_p {cs : List PV} : frzR S (.pa cs) = (frzL S cs).map fun x => .agg x.1 := by
  simp only [frzR, frzV]
  cases frzL S cs <;> rfl
@[simp] theorem resPV_cell {a t : Nat} : resPV P S (.cell a t) = (loadV P S.gen S.box t (S.t a)).bind fun r => (frzR S r).map fun x => (.d x, false) := by
  simp only [resPV, loadPV_t, frzR]
  cases loadV P S.gen S.box t (S.t a) with
  | none => rfl
  | some r =>
    simp only [Option.bind_some]
    cases frzV S r <;> rfl
def resV (S : PS) (x : PV) (o : Bool) : Option (PV × Bool) :=
  match x with
  | .d x => some (.d x, o && isSl (.d x))
  | .cptr c => some (.cptr c, false)
  | .fn f [] => some (.fn f [], false)
  | .bsl n g len sz ag => (thawB (S.gen n) (S.box n) g len sz ag).map fun xs => (.d (.slice xs), decide (0 < len ∧ (S.box n).length = len * sz))
  | .pa cs => (frzL S cs).map fun x => (.d (.agg x.1), false)
  | _ => none
@[simp] theorem resV_d {x : DV} {o : Bool} : resV S (.d x) o = some (.d x, o && isSl (.d x)) := rfl
@[simp] theorem resV_c {x : List DV} {o : Bool} : resV S (.cptr x) o = some (.cptr x, false) := rfl
@[simp] theorem resV_f {f : FuncId} {o : Bool} : resV S (.fn f []) o = some (.fn f [], false) := rfl
@[simp] theorem resV_b {n g len sz : Nat} {ag : Bool} {o : Bool} : resV S (.bsl n g len sz ag) o = (thawB (S.gen n) (S.box n) g len sz ag).map fun xs => (.d (.slice xs), decide (0 < len ∧ (S.box n).length = len * sz)) := rfl
@[simp] theorem resV_p {cs : List PV} {o : Bool} : resV S (.pa cs) o = (frzL S cs).map fun x => (.d (.agg x.1), false) := rfl
@[simp] theorem resPV_tmp {t : Nat} : resPV P S (.tmp t) = resV S (S.t t) (S.own (.t t 0)) := by
  simp only [resPV, resV]
  cases S.t t with
  | fn f c => cases c <;> rfl
  | _ => rfl
def srcB (x : PV) (l : List Nat) : List Nat := match x with | .bsl n _ _ _ _ => n :: l | _ => l
@[simp] theorem srcB_d {x : DV} {l : List Nat} : srcB (.d x) l = l := rfl
@[simp] theorem srcB_c {x : List DV} {l : List Nat} : srcB (.cptr x) l = l := rfl
@[simp] theorem srcB_f {f : FuncId} {c : List PV} {l : List Nat} : srcB (.fn f c) l = l := rfl
@[simp] theorem srcB_p {c : List PV} {l : List Nat} : srcB (.pa c) l = l := rfl
@[simp] theorem srcB_b {n g len sz : Nat} {ag : Bool} {l : List Nat} : srcB (.bsl n g len sz ag) l = n :: l := rfl
@[simp] theorem srcsOf_nil : srcsOf S [] = [] := rfl
@[simp] theorem srcsOf_tmp {t : Nat} {l : List ResultVar} : srcsOf S (.tmp t :: l) = srcB (S.t t) (srcsOf S l) := by
  simp only [srcsOf, srcB] <;> cases S.t t <;> rfl
@[simp] theorem srcsOf_cell {a t : Nat} {l : List ResultVar} : srcsOf S (.cell a t :: l) = srcsOf S l := rfl
@[simp] theorem pack_1 {x : PV × Bool} : pack [x] = x.1 := rfl
@[simp] theorem pack_2 {x y : PV × Bool} {l : List (PV × Bool)} : pack (x :: y :: l) = .tup (x.1 :: y.1 :: l.map (·.1)) := rfl
@[simp] theorem pack_0 : pack [] = .tup [] := rfl
/-- The boxes as they are told. -/
def postOk (S : PS) (post : List Upd) : Prop := ∀ u ∈ post, S.gen u.n = u.g ∧ S.box u.n = u.c ∧ ∀ k, u.o k = true → S.own (.b u.n k) = true
@[simp] theorem postOk_nil : postOk S [] := by simp [postOk]
@[simp] theorem postOk_cons {u : Upd} {l : List Upd} : postOk S (u :: l) ↔ (S.gen u.n = u.g ∧ S.box u.n = u.c ∧ ∀ k, u.o k = true → S.own (.b u.n k) = true) ∧ postOk S l := by
  simp [postOk]
def finM (o : Option (List (PV × Bool))) (r : PV) (ro : Nat → Bool) : Prop := ∃ l, o = some l ∧ r = pack l ∧ ∀ j, ro j = true → (l.getD j (.any, false)).2 = true
@[simp] theorem finM_some {l : List (PV × Bool)} {r : PV} {ro : Nat → Bool} : finM (some l) r ro = (r = pack l ∧ ∀ j, ro j = true → (l.getD j (.any, false)).2 = true) := by
  simp [finM]
@[simp] theorem retM_ret {rs : List ResultVar} {r : PV} {ro : Nat → Bool} {post : List Upd} : retM P rs r ro post .ret S = (finM (resAllM P S rs) r ro ∧ postOk S post) := rfl
@[simp] theorem retM_n {rs : List ResultVar} {r : PV} {ro : Nat → Bool} {post : List Upd} : retM P rs r ro post .normal S = (finM (resAllM P S rs) r ro ∧ postOk S post) := rfl
@[simp] theorem retM_e {rs : List ResultVar} {r : PV} {ro : Nat → Bool} {post : List Upd} {i : Nat} : retM P rs r ro post (.exit i) S = False := rfl
@[simp] theorem resAllM_nil : resAllM P S [] = some [] := rfl
@[simp] theorem resAllM_cons {x : ResultVar} {rs : List ResultVar} : resAllM P S (x :: rs) = (resM P S x).bind fun x => (resAllM P S rs).map (x :: ·) := rfl
def resMV (p : PV) (o : Bool) : Option (PV × Bool) := match p with | .tup _ => none | p => some (p, o && isSl p)
@[simp] theorem resMV_d {x : DV} {o : Bool} : resMV (.d x) o = some (.d x, o && isSl (.d x)) := rfl
@[simp] theorem resMV_p {x : List PV} {o : Bool} : resMV (.pa x) o = some (.pa x, false) := by simp [resMV, isSl]
@[simp] theorem resMV_c {x : List DV} {o : Bool} : resMV (.cptr x) o = some (.cptr x, false) := by simp [resMV, isSl]
@[simp] theorem resMV_f {f : FuncId} {x : List PV} {o : Bool} : resMV (.fn f x) o = some (.fn f x, false) := by simp [resMV, isSl]
@[simp] theorem resMV_r {n g k : Nat} {o : Bool} : resMV (.ptr n g k) o = some (.ptr n g k, false) := by simp [resMV, isSl]
@[simp] theorem resMV_b {n g len sz : Nat} {ag o : Bool} : resMV (.bsl n g len sz ag) o = some (.bsl n g len sz ag, false) := by simp [resMV, isSl]
@[simp] theorem resM_tmp {t : Nat} : resM P S (.tmp t) = resMV (S.t t) (S.own (.t t 0)) := by
  simp only [resM, resMV] <;> cases S.t t <;> rfl
@[simp] theorem resM_cell {a t : Nat} : resM P S (.cell a t) = (loadV P S.gen S.box t (S.t a)).bind fun p => resMV p false := by
  simp only [resM, loadPV_t]
  cases loadV P S.gen S.box t (S.t a) with
  | none => rfl
  | some p => cases p <;> rfl
end
/-- The laws that all walks go by. -/
def sc : Lean.Meta.Simp.Config := { implicitDefEqProofs := false }
/-- What a side goal is shown by. -/
theorem dd {p : Prop} (h : p := by first | omega | (simp (config := sc) <;> omega) | (simp (config := sc) [*] <;> omega)) : p := h
theorem std : (∀ {α β : Type} {f : α → β} {l : List α} {i : Nat}, (l.map f).take i = (l.take i).map f) ∧ (∀ {α β : Type} {f : α → β} {l : List α} {i : Nat}, (l.map f).drop i = (l.drop i).map f) ∧
    (∀ {n : Int}, -9223372036854775808 ≤ n ∧ n ≤ 9223372036854775807 → IntKind.i64.wrap n = n) ∧ (∀ {α : Type} [Inhabited α] {l : List α} {i : Nat} (h : i < l.length), nth l (i : Int) = l[i]) ∧
    (∀ {α : Type} {c : Prop} [Decidable c] {x : α}, c → (if c then some x else none) = some x) ∧ (∀ {c : Prop} [Decidable c], c → decide c = true) ∧ (∀ {c : Prop} [Decidable c], ¬ c → decide c = false) :=
  ⟨map_take', map_drop', wrap_in, nth_nat, opt_if, dec_t, dec_f⟩
end BoEng
