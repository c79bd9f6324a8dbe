/- Whole codes and whole functions. -/
import Derived.Test.YtoamihggbaaohaaEngQ
namespace BoEng
open Go Go.RowKit

/-! ### The weakest precondition on states -/
def owp (P : Program) (N : Nat) (tr : List Nat) (o : Oper) (S : PS) (K : PS → Prop) : Prop :=
  match o.op with
  | .call ⟨.value x, args, _⟩ => dstOk N o = true ∧
    match fnOf (S.ev x) with
    | some (f, caps) =>
      if isCb tr o = true then ∃ (ns : List Nat) (fo : Nat) (r : PV) (ro : Nat → Bool) (post : List Upd), (∀ n ∈ ns, 0 < S.gen n) ∧ Meets P fo (fun n => S.gen n + 1) f (args.toList.map S.ev ++ caps) (ns.map (snap S)) r ro post ∧ (isOut tr o = true → ∀ u ∈ post, nws tr S.fo u.n = true) ∧ K ((⟨o.dst, r, ro, fun _ => false, post⟩ : Eff).apply S)
      else (args.toList.map S.ev ++ caps).all ptrFree = true ∧ ∃ r ro, Holds P f (args.toList.map S.ev ++ caps) r ro ∧ K ((callE o r ro).apply S)
    | none => False
  | _ =>
    match effF P N tr S o with
    | some E => K (E.apply S)
    | none => False

def rwp (P : Program) (N : Nat) (tr : List Nat) (ops : Array Oper) : List Oper → (PS → Prop) → PS → Prop
  | [], Q, S => Q S
  | o :: l, Q, S => if gd ops o S = true then owp P N tr o S (rwp P N tr ops l Q) else dstOk N o = true ∧ rwp P N tr ops l Q ((skipE o).apply S)

def pwp (P : Program) (N : Nat) (tr : List Nat) : Code → (Exit → PS → Prop) → PS → Prop
  | .skip, Q, S => Q .normal S
  | .region _ ops _, Q, S => rwp P N tr ops ops.toList (Q .normal) S
  | .seq a b, Q, S => pwp P N tr a (fun e S' => match e with | .normal => pwp P N tr b Q S' | e => Q e S') S
  | .cond c a b, Q, S => match S.ev c with | .d (.bool t) => if t = true then pwp P N tr a Q S else pwp P N tr b Q S | _ => False
  | .block id c, Q, S => pwp P N tr c (fun e S' => match e with | .exit id' => if id' = id then Q .normal S' else Q (.exit id') S' | e => Q e S') S
  | .loop c, Q, S => ∃ (I : PS → Prop) (μ : PS → Nat), I S ∧ ∀ S1, I S1 → pwp P N tr c (fun e S' => match e with | .normal => I S' ∧ μ S' < μ S1 | e => Q e S') S1
  | .exit id, Q, S => Q (.exit id) S
  | .label _, Q, S => Q .normal S
  | .ret, Q, S => Q .ret S
  | _, _, _ => False

def codeOk (N : Nat) (tr : List Nat) : Code → Bool
  | .skip => true
  | .region _ ops draw => dstsOk N ops && (!draw || regOk tr ops)
  | .seq a b => codeOk N tr a && codeOk N tr b
  | .cond _ a b => codeOk N tr a && codeOk N tr b
  | .block _ c => codeOk N tr c
  | .loop c => codeOk N tr c
  | .exit _ => true
  | .label _ => true
  | .ret => true
  | _ => false

section
variable {P : Program} {N : Nat} {tr : List Nat} {ops : Array Oper}

theorem owp_step {o : Oper} {S : PS} {K : PS → Prop} (h : owp P N tr o S K) : ∃ E, opStep P N tr o S E ∧ K (E.apply S) := by
  have key : (match effF P N tr S o with | some E => K (E.apply S) | none => False) → ∃ E, effF P N tr S o = some E ∧ K (E.apply S) := by
    intro h
    split at h
    · rename_i E he
      exact ⟨E, he, h⟩
    · exact h.elim
  unfold owp at h
  unfold opStep
  cases ho : o.op with
  | call c =>
    obtain ⟨cal, args, ts⟩ := c
    cases cal with
    | value x =>
      simp only [ho] at h ⊢
      obtain ⟨hd, h⟩ := h
      split at h
      · rename_i f caps hx
        split at h
        · rename_i hcb
          obtain ⟨ns, fo, r, ro, post, hns, hM, hout, hK⟩ := h
          exact ⟨_, ⟨hd, by rw [if_pos hcb]; exact ⟨f, caps, ns, fo, r, ro, post, hx, hns, hM, hout, rfl⟩⟩, hK⟩
        · rename_i hcb
          obtain ⟨hall, r, ro, hH, hK⟩ := h
          exact ⟨_, ⟨hd, by rw [if_neg hcb]; exact ⟨f, caps, r, ro, hx, hall, hH, rfl⟩⟩, hK⟩
      · exact h.elim
    | _ => simp only [ho] at h ⊢; exact key h
  | _ => simp only [ho] at h ⊢; exact key h

theorem rwp_run : ∀ (l : List Oper) (k : Nat) (Q : PS → Prop) (S : PS), l = ops.toList.drop k → rwp P N tr ops l Q S → ∃ S', Run P N tr ops (List.range' k l.length) S S' ∧ Q S'
  | [], k, Q, S, _, h => ⟨S, rfl, h⟩
  | o :: l, k, Q, S, hl, h => by
    have hk : ops.toList[k]? = some o := by
      have := congrArg (fun l => l[0]?) hl
      simp at this
      simpa using this.symm
    have hl' : l = ops.toList.drop (k + 1) := by
      have := congrArg List.tail hl
      simp at this
      simpa using this
    unfold rwp at h
    rw [List.length_cons, List.range'_succ]
    simp only [Run]
    split at h
    · rename_i hg
      obtain ⟨E, hs, hK⟩ := owp_step h
      obtain ⟨S', hr, hQ⟩ := rwp_run l (k + 1) Q _ hl' hK
      exact ⟨S', ⟨o, E, by simpa using hk, by unfold Stp; rw [if_pos hg]; exact hs, hr⟩, hQ⟩
    · rename_i hg
      obtain ⟨S', hr, hQ⟩ := rwp_run l (k + 1) Q _ hl' h.2
      exact ⟨S', ⟨o, skipE o, by simpa using hk, by unfold Stp; rw [if_neg hg]; exact ⟨h.1, rfl⟩, hr⟩, hQ⟩

variable {tch : Env} {w0 : World} {fr0 : Nat → Option Nat}

theorem Sim.drawn {S : PS} {a : Act} {w : World} {fr : Nat → Option Nat} {β : Nat → Blk} (h : Sim N tch w0 fr0 S a w fr β) : Sim N tch w0 fr0 S a { w with drawn := w.drawn + 1 } fr β :=
  h.fresh ⟨rfl, rfl, rfl, Nat.le_refl _, fun _ _ => rfl, fun _ _ => rfl, h.frb⟩

theorem pwp_mono {c : Code} : ∀ {Q Q' : Exit → PS → Prop} {S : PS}, (∀ e S, Q e S → Q' e S) → pwp P N tr c Q S → pwp P N tr c Q' S := by
  have rmono : ∀ (ops : Array Oper) (l : List Oper) {Q Q' : PS → Prop} {S : PS}, (∀ S, Q S → Q' S) → rwp P N tr ops l Q S → rwp P N tr ops l Q' S := by
    intro ops l
    induction l with
    | nil => intro Q Q' S hq h; exact hq S h
    | cons o l ih =>
      intro Q Q' S hq h
      unfold rwp at h ⊢
      split at h
      · rename_i hg
        rw [if_pos hg]
        unfold owp at h ⊢
        split at h
        · refine ⟨h.1, ?_⟩
          have h2 := h.2
          split at h2
          · split at h2
            · rename_i hcb
              obtain ⟨ns, fo, r, ro, post, hns, hM, hout, hK⟩ := h2
              rw [if_pos hcb]
              exact ⟨ns, fo, r, ro, post, hns, hM, hout, ih hq hK⟩
            · rename_i hcb
              obtain ⟨ha, r, ro, hH, hK⟩ := h2
              rw [if_neg hcb]
              exact ⟨ha, r, ro, hH, ih hq hK⟩
          · exact h2.elim
        · split at h
          · exact ih hq h
          · exact h.elim
      · rename_i hg
        rw [if_neg hg]
        exact ⟨h.1, ih hq h.2⟩
  induction c with
  | skip => intro Q Q' S hq h; exact hq _ _ h
  | region id ops draw => intro Q Q' S hq h; exact rmono ops _ (fun S hS => hq .normal S hS) h
  | seq a b iha ihb =>
    intro Q Q' S hq h
    refine iha (fun e S hS => ?_) h
    cases e <;> first | exact ihb hq hS | exact hq _ _ hS
  | cond c a b iha ihb =>
    intro Q Q' S hq h
    unfold pwp at h ⊢
    split at h
    · split at h
      · rename_i ht; rw [if_pos ht]; exact iha hq h
      · rename_i ht; rw [if_neg ht]; exact ihb hq h
    · exact h.elim
  | block id c ih =>
    intro Q Q' S hq h
    refine ih (fun e S hS => ?_) h
    cases e with
    | exit id' =>
      simp only at hS ⊢
      split at hS
      · rename_i e; rw [if_pos e]; exact hq _ _ hS
      · rename_i e; rw [if_neg e]; exact hq _ _ hS
    | _ => exact hq _ _ hS
  | loop c ih =>
    intro Q Q' S hq h
    obtain ⟨I, μ, h0, hr⟩ := h
    refine ⟨I, μ, h0, fun S1 h1 => ih (fun e S hS => ?_) (hr S1 h1)⟩
    cases e <;> first | exact hS | exact hq _ _ hS
  | exit id => intro Q Q' S hq h; exact hq _ _ h
  | label l => intro Q Q' S hq h; exact hq _ _ h
  | ret => intro Q Q' S hq h; exact hq _ _ h
  | _ => intro Q Q' S hq h; exact h.elim

/-- The states and the frames go together, through a whole code. -/
theorem pwp_sound (hm : P.follows .mixedOrders = true) : ∀ (c : Code), codeOk N tr c = true → ∀ (Q : Exit → PS → Prop) (S : PS), pwp P N tr c Q S → ∀ (a : Act) (w : World) (fr : Nat → Option Nat) (β : Nat → Blk), Sim N tch w0 fr0 S a w fr β →
    c.wp P (fun e a' w' => ∃ S' fr' β', Q e S' ∧ Sim N tch w0 fr0 S' a' w' fr' β') a w := by
  intro c
  induction c with
  | skip => intro _ Q S h a w fr β hS; exact wp_skip ⟨S, fr, β, h, hS⟩
  | region id ops draw =>
    intro hok Q S h a w fr β hS
    simp only [codeOk, Bool.and_eq_true, Bool.or_eq_true, Bool.not_eq_true'] at hok
    obtain ⟨S', hr, hQ⟩ := rwp_run ops.toList 0 (Q .normal) S (by simp) h
    cases draw with
    | false =>
      refine wp_region ?_
      have : List.range' 0 ops.toList.length = List.range ops.size := by rw [List.range_eq_range']; simp
      rw [this] at hr
      exact run_wpOps (tch := tch) (w0 := w0) (fr0 := fr0) hok.1 _ S S' a w fr β hr hS fun a' w' fr' β' h' => ⟨S', fr', β', hQ, h'⟩
    | true =>
      have hreg : regOk tr ops = true := by
        rcases hok.2 with h | h
        · cases h
        · exact h
      refine wp_region_any hm ?_
      have e1 : List.range' 0 ops.toList.length = List.range ops.size := by rw [List.range_eq_range']; simp
      rw [e1] at hr
      refine run_wpAny (tch := tch) (w0 := w0) (fr0 := fr0) hok.1 hreg ops.size (List.range ops.size) _ S S' a _ fr β (by simp) ?_ (fun i => ?_) (by simp) (fun i o ho hl => ?_) hr hS.drawn fun a' w' fr' β' h' => ⟨S', fr', β', hQ, h'⟩
      · exact List.pairwise_lt_range
      · simp only [List.mem_range, Array.getD_eq_getD_getElem?, Array.getElem?_replicate]
        constructor
        · intro hi; exact ⟨hi, by simp [hi]⟩
        · intro hi; exact hi.1
      · exfalso
        simp only [Array.getD_eq_getD_getElem?, Array.getElem?_replicate] at hl
        split at hl <;> simp at hl
  | seq x y ihx ihy =>
    intro hok Q S h a w fr β hS
    simp only [codeOk, Bool.and_eq_true] at hok
    refine wp_seq (wp_mono (ihx hok.1 _ S h a w fr β hS) fun e a' w' hq => ?_)
    obtain ⟨S', fr', β', hq, hS'⟩ := hq
    cases e with
    | normal => exact ihy hok.2 Q S' hq a' w' fr' β' hS'
    | _ => exact ⟨S', fr', β', hq, hS'⟩
  | cond c x y ihx ihy =>
    intro hok Q S h a w fr β hS
    simp only [codeOk, Bool.and_eq_true] at hok
    unfold pwp at h
    split at h
    · rename_i t hc
      have hv := hS.ev c
      rw [hc] at hv
      refine wp_cond (inv_bool hv) ?_
      cases t with
      | true => rw [if_pos rfl] at h ⊢; exact ihx hok.1 Q S h a w fr β hS
      | false => rw [if_neg (by simp)] at h ⊢; exact ihy hok.2 Q S h a w fr β hS
    · exact h.elim
  | block id c ih =>
    intro hok Q S h a w fr β hS
    refine wp_block (wp_mono (ih hok _ S h a w fr β hS) fun e a' w' hq => ?_)
    obtain ⟨S', fr', β', hq, hS'⟩ := hq
    cases e with
    | exit id' =>
      simp only [Exit.inBlock]
      simp only at hq
      split at hq
      · rename_i e; rw [if_pos e]; exact ⟨S', fr', β', hq, hS'⟩
      · rename_i e; rw [if_neg e]; exact ⟨S', fr', β', hq, hS'⟩
    | _ => exact ⟨S', fr', β', hq, hS'⟩
  | loop c ih =>
    intro hok Q S h a w fr β hS
    obtain ⟨I, μ, h0, hr⟩ := h
    refine wp_loop_ghost (fun n a w => ∃ S fr β, I S ∧ μ S = n ∧ Sim N tch w0 fr0 S a w fr β) (μ S) ⟨S, fr, β, h0, rfl, hS⟩ ?_
    rintro n a1 w1 ⟨S1, fr1, β1, h1, hn, hS1⟩
    refine wp_mono (ih hok _ S1 (hr S1 h1) a1 w1 fr1 β1 hS1) fun e a' w' hq => ?_
    obtain ⟨S', fr', β', hq, hS'⟩ := hq
    cases e with
    | normal => exact ⟨μ S', by rw [← hn]; exact hq.2, S', fr', β', hq.1, rfl, hS'⟩
    | _ => exact ⟨S', fr', β', hq, hS'⟩
  | exit id => intro _ Q S h a w fr β hS; exact wp_exit ⟨S, fr, β, h, hS⟩
  | label l => intro _ Q S h a w fr β hS; exact wp_label ⟨S, fr, β, h, hS⟩
  | ret => intro _ Q S h a w fr β hS; exact wp_ret ⟨S, fr, β, h, hS⟩
  | _ => intro _ Q S h; exact h.elim
end

end BoEng
