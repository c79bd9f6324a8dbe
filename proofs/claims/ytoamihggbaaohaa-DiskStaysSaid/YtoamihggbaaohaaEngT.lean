/- Codes in short, and the rules by which a state is reckoned. -/
import Derived.Test.YtoamihggbaaohaaEngS
namespace BoEng
set_option linter.unusedSimpArgs false
set_option linter.unusedVariables false
open Go Go.RowKit

/-- An operation in short: its guard (the slot that tells), its slot, what it is. -/
structure CO where
  g : Option (Nat × Bool)
  d : Option Nat
  op : Op

inductive CC where
  | skip
  | reg (l : List CO)
  | seq (a b : CC)
  | cond (c : Operand) (a b : CC)
  | block (id : Nat) (c : CC)
  | loop (c : CC)
  | exit (id : Nat)
  | ret
  | bad

def cgd (l : List Oper) : Option (Nat × Bool) → Option (Nat × Bool)
  | none => none
  | some (j, w) => match l[j]? with | some x => (match x.dst with | some d => some (d, w) | none => some (0, w)) | none => some (0, w)
def cop (l : List Oper) (o : Oper) : CO := ⟨cgd l o.guard, o.dst, o.op⟩
def gdsOk (ops : Array Oper) : Bool := ops.toList.all fun o => match o.guard with | none => true | some (j, _) => ((ops[j]?).bind (·.dst)).isSome
def ccs : Code → CC
  | .skip => .skip
  | .region _ ops _ => .reg (ops.toList.map (cop ops.toList))
  | .seq a b => .seq (ccs a) (ccs b)
  | .cond c a b => .cond c (ccs a) (ccs b)
  | .block id c => .block id (ccs c)
  | .loop c => .loop (ccs c)
  | .exit id => .exit id
  | .label _ => .skip
  | .ret => .ret
  | _ => .bad
def codeOk2 (N : Nat) (tr : List Nat) : Code → Bool
  | .region _ ops draw => dstsOk N ops && (!draw || regOk tr ops) && gdsOk ops
  | .seq a b => codeOk2 N tr a && codeOk2 N tr b
  | .cond _ a b => codeOk2 N tr a && codeOk2 N tr b
  | .block _ c => codeOk2 N tr c
  | .loop c => codeOk2 N tr c
  | .skip => true
  | .exit _ => true
  | .label _ => true
  | .ret => true
  | _ => false
theorem codeOk2_ok {N : Nat} {tr : List Nat} : ∀ (c : Code), codeOk2 N tr c = true → codeOk N tr c = true := by
  intro c
  induction c with
  | region id ops draw => intro h; simp only [codeOk2, Bool.and_eq_true] at h; simp only [codeOk, Bool.and_eq_true]; exact h.1
  | seq a b iha ihb => intro h; simp only [codeOk2, Bool.and_eq_true] at h; simp only [codeOk, Bool.and_eq_true]; exact ⟨iha h.1, ihb h.2⟩
  | cond c a b iha ihb => intro h; simp only [codeOk2, Bool.and_eq_true] at h; simp only [codeOk, Bool.and_eq_true]; exact ⟨iha h.1, ihb h.2⟩
  | block id c ih => intro h; exact ih h
  | loop c ih => intro h; exact ih h
  | _ => intro h; first | rfl | cases h

/-- The datum in a slot. -/
def PS.set (S : PS) (d : Nat) (v : PV) : PS := { S with t := upd S.t d v, own := fun l => match l with | .t i j => if i = d then false else S.own (.t i j) | l => S.own l }
def PS.setO (S : PS) (d : Option Nat) (v : PV) : PS := match d with | some d => S.set d v | none => S
def gdv (p : PV) (w : Bool) : Bool := match p with | .d (.bool b) => b == w | _ => false

/-- One operation, its slot being known to be one. -/
def ow (P : Program) (tr : List Nat) (d : Option Nat) (op : Op) (S : PS) (K : PS → Prop) : Prop :=
  owp P (d.getD 0 + 1) tr { dst := d, op := op, type := 0, pos := "", after := #[], guard := none } S K
def rwc (P : Program) (tr : List Nat) : List CO → (PS → Prop) → PS → Prop
  | [], Q, S => Q S
  | c :: l, Q, S =>
    match c.g with
    | none => ow P tr c.d c.op S (rwc P tr l Q)
    | some (j, w) => if gdv (S.t j) w = true then ow P tr c.d c.op S (rwc P tr l Q) else rwc P tr l Q (S.setO c.d .undef)
def seqQ (P : Program) (k : PS → Prop) (Q : Exit → PS → Prop) (e : Exit) (S : PS) : Prop := match e with | .normal => k S | e => Q e S
def blkQ (id : Nat) (Q : Exit → PS → Prop) (e : Exit) (S : PS) : Prop := match e with | .exit id' => if id' = id then Q .normal S else Q (.exit id') S | e => Q e S
def pwc (P : Program) (tr : List Nat) : CC → (Exit → PS → Prop) → PS → Prop
  | .skip, Q, S => Q .normal S
  | .reg l, Q, S => rwc P tr l (Q .normal) S
  | .seq a b, Q, S => pwc P tr a (seqQ P (pwc P tr b Q) Q) S
  | .cond c a b, Q, S => match S.ev c with | .d (.bool t) => if t = true then pwc P tr a Q S else pwc P tr b Q S | _ => False
  | .block id c, Q, S => pwc P tr c (blkQ id Q) S
  | .loop c, Q, S => ∃ (I : PS → Prop) (μ : PS → Nat), I S ∧ ∀ S1, I S1 → pwc P tr c (seqQ P (fun S' => I S' ∧ μ S' < μ S1) Q) S1
  | .exit id, Q, S => Q (.exit id) S
  | .ret, Q, S => Q .ret S
  | .bad, _, _ => False

section
variable {P : Program} {N : Nat} {tr : List Nat}

theorem effF0_N {N' : Nat} {S : PS} {o o' : Oper} (hd : o'.dst = o.dst) (ho : o'.op = o.op) (h : dstOk N o = true) (h' : dstOk N' o' = true) : effF0 P N' tr S o' = effF0 P N tr S o := by
  obtain ⟨d, op, ty, pos, af, g⟩ := o
  obtain ⟨d', op', ty', pos', af', g'⟩ := o'
  simp only at hd ho
  subst hd ho
  unfold effF0
  rw [if_pos h, if_pos h']
  rfl

theorem effF_N {N' : Nat} {S : PS} {o o' : Oper} (hd : o'.dst = o.dst) (ho : o'.op = o.op) (h : dstOk N o = true) (h' : dstOk N' o' = true) : effF P N' tr S o' = effF P N tr S o := by
  have e : csOk tr S o' = csOk tr S o := by
    unfold csOk isCs isCm isCl isTr isFz
    rw [hd, ho]
  have e2 : fpCk tr S o' = fpCk tr S o := by
    unfold fpCk fpOf isTr isFz
    rw [hd, ho]
  unfold effF
  rw [e, e2, effF0_N hd ho h h']

theorem owp_of {N' : Nat} {S : PS} {K : PS → Prop} {o o' : Oper} (hd : o'.dst = o.dst) (ho : o'.op = o.op) (h : dstOk N o = true) (h' : dstOk N' o' = true) (hw : owp P N' tr o' S K) : owp P N tr o S K := by
  unfold owp at hw ⊢
  rw [ho] at hw
  split at hw
  · refine ⟨h, ?_⟩
    have h2 := hw.2
    have hcb : isCb tr o' = isCb tr o := by unfold isCb; rw [hd]
    have hou : isOut tr o' = isOut tr o := by unfold isOut; rw [hd]
    rw [hcb, hou, hd] at h2
    split at h2
    · split at h2
      · rename_i hc
        rw [if_pos hc]
        exact h2
      · rename_i hc
        rw [if_neg hc]
        obtain ⟨ha, r, ro, hH, hK⟩ := h2
        refine ⟨ha, r, ro, hH, ?_⟩
        have : callE o' r ro = callE o r ro := by unfold callE; rw [hd]
        rw [← this]
        exact hK
    · exact h2.elim
  · rw [effF_N hd ho h h'] at hw
    exact hw

theorem skip_set (o : Oper) (S : PS) : (skipE o).apply S = S.setO o.dst .undef := by
  unfold skipE PS.setO
  cases hd : o.dst with
  | none =>
    simp only [Eff.apply]
    obtain ⟨t, bx, g, ow, fo⟩ := S
    simp only
    congr 1
    funext l
    cases l <;> simp
  | some d =>
    simp only [Eff.apply, PS.set]
    congr 1
    funext l
    cases l with
    | t i j =>
      simp only [Option.some.injEq, Bool.not_false, Bool.and_true]
      by_cases e : d = i
      · subst e; simp
      · have e' : ¬ i = d := fun h => e h.symm
        simp [e, e']
    | b n k => simp

theorem owp_mono {S : PS} {o : Oper} {K K' : PS → Prop} (hk : ∀ S, K S → K' S) (h : owp P N tr o S K) : owp P N tr o S K' := by
  unfold owp at h ⊢
  split at h
  · refine ⟨h.1, ?_⟩
    have h2 := h.2
    split at h2
    · split at h2
      · rename_i hc
        rw [if_pos hc]
        obtain ⟨ns, fo, r, ro, post, hns, hM, hou, hK⟩ := h2
        exact ⟨ns, fo, r, ro, post, hns, hM, hou, hk _ hK⟩
      · rename_i hc
        rw [if_neg hc]
        obtain ⟨ha, r, ro, hH, hK⟩ := h2
        exact ⟨ha, r, ro, hH, hk _ hK⟩
    · exact h2.elim
  · split at h
    · exact hk _ h
    · exact h.elim

theorem rwc_rwp {ops : Array Oper} (hN : dstsOk N ops = true) (hG : gdsOk ops = true) : ∀ (l : List Oper) (Q : PS → Prop) (S : PS), (∀ o ∈ l, o ∈ ops.toList) → rwc P tr (l.map (cop ops.toList)) Q S → rwp P N tr ops l Q S
  | [], Q, S, _, h => h
  | o :: l, Q, S, hm, h => by
    have hmo := hm o List.mem_cons_self
    have ih := fun S' => rwc_rwp hN hG l Q S' fun o ho => hm o (List.mem_cons_of_mem _ ho)
    have hd : dstOk N o = true := List.all_eq_true.1 hN o hmo
    have hgk := List.all_eq_true.1 hG o hmo
    have hd' : dstOk (o.dst.getD 0 + 1) { dst := o.dst, op := o.op, type := 0, pos := "", after := #[], guard := none } = true := by
      unfold dstOk
      cases o.dst <;> simp
    have hgo : ow P tr o.dst o.op S (rwc P tr (l.map (cop ops.toList)) Q) → owp P N tr o S (rwp P N tr ops l Q) := by
      intro hw
      unfold ow at hw
      exact owp_mono ih (owp_of rfl rfl hd hd' hw)
    rw [List.map_cons] at h
    unfold rwc at h
    unfold rwp
    simp only [cop] at h
    cases hg : o.guard with
    | none =>
      rw [hg] at h
      simp only [cgd] at h
      have : gd ops o S = true := by unfold gd; rw [hg]
      rw [if_pos this]
      exact hgo h
    | some q =>
      obtain ⟨j, w⟩ := q
      rw [hg] at h hgk
      simp only [Option.isSome_iff_exists] at hgk
      obtain ⟨d, hjd⟩ := hgk
      obtain ⟨x, hx, hxd⟩ := Option.bind_eq_some_iff.1 hjd
      have hx' : ops.toList[j]? = some x := by simpa using hx
      simp only [cgd, hx', hxd] at h
      have : gd ops o S = gdv (S.t d) w := by
        unfold gd gdv
        rw [hg]
        simp only [hjd]
        rfl
      rw [this]
      split at h
      · rename_i h1
        rw [if_pos h1]
        exact hgo h
      · rename_i h1
        rw [if_neg h1]
        refine ⟨hd, ?_⟩
        rw [skip_set]
        exact ih _ h

theorem pwc_pwp : ∀ (c : Code), codeOk2 N tr c = true → ∀ (Q : Exit → PS → Prop) (S : PS), pwc P tr (ccs c) Q S → pwp P N tr c Q S := by
  intro c
  induction c with
  | region id ops draw =>
    intro hok Q S h
    simp only [codeOk2, Bool.and_eq_true] at hok
    exact rwc_rwp hok.1.1 hok.2 ops.toList _ S (fun _ h => h) h
  | seq a b iha ihb =>
    intro hok Q S h
    simp only [codeOk2, Bool.and_eq_true] at hok
    unfold pwp
    refine pwp_mono (fun e S' hS => ?_) (iha hok.1 (seqQ P (pwc P tr (ccs b) Q) Q) S h)
    cases e with
    | normal => exact ihb hok.2 Q S' hS
    | _ => exact hS
  | cond c a b iha ihb =>
    intro hok Q S h
    simp only [codeOk2, Bool.and_eq_true] at hok
    simp only [ccs, pwc] at h
    unfold pwp
    split at h
    · rename_i t hc
      rw [hc]
      simp only
      split at h
      · rename_i ht; rw [if_pos ht]; exact iha hok.1 Q S h
      · rename_i ht; rw [if_neg ht]; exact ihb hok.2 Q S h
    · exact h.elim
  | block id c ih =>
    intro hok Q S h
    refine pwp_mono (fun e S' hS => ?_) (ih hok (blkQ id Q) S h)
    cases e <;> exact hS
  | loop c ih =>
    intro hok Q S h
    obtain ⟨I, μ, h0, hr⟩ := h
    refine ⟨I, μ, h0, fun S1 h1 => pwp_mono (fun e S' hS => ?_) (ih hok _ S1 (hr S1 h1))⟩
    cases e <;> exact hS
  | skip => intro _ Q S h; exact h
  | exit id => intro _ Q S h; exact h
  | label l => intro _ Q S h; exact h
  | ret => intro _ Q S h; exact h
  | _ => intro hok; cases hok

theorem Holds.by (hm : P.follows .mixedOrders = true) {f : FuncId} {fn : Func} {c : Code} (hf : P.funcs[f]? = some fn) (hname : (fn.name == "runtime.NumGoroutine") = false) (hb : fn.body = some c) (tr : List Nat) {args : List PV}
    (hargs : args.length ≤ fn.ntmps) (hok : codeOk2 fn.ntmps tr c = true) (hres : resOk fn.results.toList = true) {r : PV} {ro : Nat → Bool} (hfree : ptrFree r = true)
    (h : pwc P tr (ccs c) (retQ P fn.results.toList r ro) (PS.start args)) : Holds P f args r ro :=
  Holds.of hm hf hname hb tr hargs (codeOk2_ok c hok) hres hfree (pwc_pwp c hok _ _ h)
theorem Meets.by (hm : P.follows .mixedOrders = true) {f : FuncId} {fn : Func} {c : Code} (hf : P.funcs[f]? = some fn) (hname : (fn.name == "runtime.NumGoroutine") = false) (hb : fn.body = some c) (tr : List Nat) {fo : Nat} {gl : Nat → Nat} {args : List PV} {pre post : List Upd}
    (hargs : args.length ≤ fn.ntmps) (hok : codeOk2 fn.ntmps tr c = true) (hres : resOk fn.results.toList = true) {r : PV} {ro : Nat → Bool}
    (hnr : namesIn (post.map (·.n)) r = true) (hpn : ∀ u ∈ post, namesL (post.map (·.n)) u.c = true ∧ 0 < u.g) (hpre : ∀ u ∈ pre, u.n ∈ post.map (·.n))
    (h : pwc P tr (ccs c) (retM P fn.results.toList r ro post) (PS.startB fo gl args pre)) : Meets P fo gl f args pre r ro post :=
  Meets.of hm hf hname hb tr hargs (codeOk2_ok c hok) hres hnr hpn hpre (pwc_pwp c hok _ _ h)
end

end BoEng
