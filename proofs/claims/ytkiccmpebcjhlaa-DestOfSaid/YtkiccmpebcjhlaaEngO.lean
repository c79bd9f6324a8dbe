/- Calls; one operation, guarded or not. -/
import Derived.Test.YtkiccmpebcjhlaaEngN
import Derived.Deep.LoopGhost
namespace BoEng
open Go Go.RowKit

/-- The state in which a function begins (no box of another is handed to it). -/
def PS.start (args : List PV) : PS := ⟨fun i => args.getD i .undef, fun _ => [], fun _ => 0, fun _ => false⟩

/-- No box stands in it. -/
def ptrFree : PV → Bool
  | .d _ => true
  | .cptr _ => true
  | .fn _ [] => true
  | .tup vs => vs.all fun | .d _ => true | .cptr _ => true | .fn _ [] => true | _ => false
  | _ => false

theorem ptrFree_rep {w : World} {fr : Nat → Option Nat} {β gen β' gen' : Nat → Nat} {v : Value} {p : PV} (hp : ptrFree p = true) (h : PRep w fr β gen v p) : PRep w fr β' gen' v p := by
  have h1 : ∀ {v : Value} {p : PV}, (match p with | .d _ => true | .cptr _ => true | .fn _ [] => true | _ => false) = true → PRep w fr β gen v p → PRep w fr β' gen' v p := by
    intro v p hp h
    cases h with
    | d v x h => exact .d v x h
    | cptr ad us cs hs hf hc h1 h => exact .cptr ad us cs hs hf hc h1 h
    | fn f vs caps hl h =>
      cases caps with
      | nil =>
        obtain rfl : vs = [] := List.eq_nil_of_length_eq_zero hl
        exact .fn f [] [] rfl (by simp)
      | cons c cs => simp at hp
    | _ => simp at hp
  cases h with
  | tup vs ps hl hh =>
    refine .tup vs ps hl fun k v p hv hpk => h1 ?_ (hh k v p hv hpk)
    simp only [ptrFree, List.all_eq_true] at hp
    exact hp p (List.mem_of_getElem? hpk)
  | d v x h => exact .d v x h
  | cptr ad us cs hs hf hc h1 h => exact .cptr ad us cs hs hf hc h1 h
  | fn f vs caps hl h =>
    cases caps with
    | nil =>
      obtain rfl : vs = [] := List.eq_nil_of_length_eq_zero hl
      exact .fn f [] [] rfl (by simp)
    | cons c cs => simp [ptrFree] at hp
  | _ => simp [ptrFree] at hp

/-- What a slot alone says. -/
def res (v : Value) : Act := ⟨#[v], []⟩

/-- Called with values that stand for 'args', in whatever memory, the function returns; what it returns stands for 'r' (what 'ro' tells is one's own), and no old block has been written. -/
def Holds (P : Program) (f : FuncId) (args : List PV) (r : PV) (ro : Nat → Bool) : Prop :=
  (∃ fn c, P.funcs[f]? = some fn ∧ (fn.name == "runtime.NumGoroutine") = false ∧ fn.body = some c) ∧ ptrFree r = true ∧
  ∀ (vs : Array Value) (w : World) (fr : Nat → Option Nat), vs.size = args.length → (∀ b f, fr b = some f → b < w.heap.size) →
    (∀ (i : Nat) (v : Value) (p : PV), vs[i]? = some v → args[i]? = some p → PRep w fr (fun _ => 0) (fun _ => 0) v p) →
    Calls P f vs w fun e w' => ∃ v fr' S' β', e = .returned v ∧ Sim 1 (fun _ => False) w fr S' (res v) w' fr' β' ∧ S'.t 0 = r ∧ ∀ j, ro j = true → S'.own (.t 0 j) = true

/-- The effect of a call. -/
def callE (o : Oper) (r : PV) (ro : Nat → Bool) : Eff := ⟨o.dst, r, ro, fun _ => false, none⟩

/-- An operation's effect. -/
def opStep (P : Program) (N : Nat) (tr : List Nat) (o : Oper) (S : PS) (E : Eff) : Prop :=
  match o.op with
  | .call ⟨.value x, args, _⟩ => dstOk N o = true ∧ ∃ f caps r ro, S.ev x = .fn f caps ∧ (args.toList.map S.ev ++ caps).all ptrFree = true ∧ Holds P f (args.toList.map S.ev ++ caps) r ro ∧ E = callE o r ro
  | _ => effF P N tr S o = some E

section
variable {P : Program} {N : Nat} {tch : Nat → Prop} {w0 : World} {fr0 : Nat → Option Nat} {S : PS} {a : Act} {w : World} {fr : Nat → Option Nat} {β : Nat → Nat}

theorem Sim.freshOf {S1 : PS} {a1 : Act} {w' : World} {fr' : Nat → Option Nat} {β1 : Nat → Nat} {n : Nat} (h : Sim n (fun _ => False) w fr S1 a1 w' fr' β1) : Fresh w fr w' fr' :=
  ⟨h.os, h.tape, h.output, h.size, fun b hb => (h.frame b hb (by simp)).1, fun b hb => (h.frame b hb (by simp)).2, h.frb⟩

theorem run_enter {f : FuncId} {fn : Func} {c : Code} (hf : P.funcs[f]? = some fn) (hname : (fn.name == "runtime.NumGoroutine") = false) (hb : fn.body = some c) (args : Array Value) (w : World) :
    (callFunc f args).run P w = .ok (.enter f args) w := by
  have h1 : fn.name ≠ "runtime.NumGoroutine" := by simpa using hname
  simp [callFunc, hf, h1, hb]

theorem own_vpart {tch : Nat → Prop} {w0 w : World} {fr : Nat → Option Nat} {v : Value} {p : PV} (h : OwnOk tch w0 w fr v p) : ∃ A n c, v = .slice A n c := by
  obtain ⟨xs, rfl, h⟩ := h
  rcases h with ⟨A, n, rfl⟩ | ⟨b, c, cur, E, sz, rfl, _⟩
  · exact ⟨A, n, n, rfl⟩
  · exact ⟨_, _, _, rfl⟩

/-- An operation, in its wp. -/
theorem opStep_sound {Q : Exit → Act → World → Prop} (h : Sim N tch w0 fr0 S a w fr β) {tr : List Nat} {o : Oper} {E : Eff} (hs : opStep P N tr o S E) {K : Act → World → Prop}
    (hK : ∀ a' w' fr' β', Sim N tch w0 fr0 (E.apply S) a' w' fr' β' → K a' w') : o.wp P a w K Q := by
  have hplain : effF P N tr S o = some E → o.wp P a w K Q := by
    intro he
    obtain ⟨w', fr', β', hd⟩ := effF_sound (P := P) h he
    unfold Oper.wp
    rcases hd with ⟨v, hrun, hS⟩ | ⟨hrun, hS⟩
    · rw [hrun]; exact hK _ _ _ _ hS
    · rw [hrun]; exact hK _ _ _ _ hS
  unfold opStep at hs
  split at hs
  · rename_i x args ts ho
    obtain ⟨hdok, f, caps, r, ro, hx, hall, ⟨⟨fn, c, hf, hname, hb⟩, hpr, hH⟩, rfl⟩ := hs
    have hd : ∀ d, o.dst = some d → d < N := by
      intro d e
      unfold dstOk at hdok
      rw [e] at hdok
      simpa using hdok
    have hxv := h.ev x
    rw [hx] at hxv
    generalize hu : a.eval x = u at hxv
    cases hxv with
    | fn f vs caps hl hh =>
      have hrun : (execOp a.eval o).run P w = .ok (.enter f (args.map a.eval ++ vs.toArray)) w := by
        simp only [execOp, ho, resolve, hu, Deferred.ofValue, invoke, Sem.run_bind, Sem.run_pure, Result.andThen_ok]
        have := run_enter hf hname hb (args.map a.eval ++ vs.toArray) w
        simpa using this
      unfold Oper.wp
      rw [hrun]
      simp only [Oper.upon]
      refine (hH (args.map a.eval ++ vs.toArray) w fr (by simp [hl]) h.frb (fun i v p hv hp => ?_)).mono ?_
      · have hfree : ptrFree p = true := List.all_eq_true.1 hall p (List.mem_of_getElem? hp)
        refine ptrFree_rep hfree (β := β) (gen := S.gen) ?_
        by_cases hi : i < args.size
        · rw [Array.getElem?_append_left (by simpa using hi)] at hv
          rw [List.getElem?_append_left (by simpa using hi)] at hp
          simp [hi] at hv hp
          subst hv hp
          exact h.ev _
        · rw [Array.getElem?_append_right (by simpa using hi)] at hv
          rw [List.getElem?_append_right (by simpa using hi)] at hp
          exact hh _ v p (by simpa using hv) (by simpa using hp)
      · rintro e w' ⟨v, fr', S', β', rfl, hS', hr, hro⟩
        have hfx := hS'.freshOf
        have hS := h.fresh hfx
        refine hK _ w' fr' β (hS.putv (callE o r ro) rfl v hd ?_ (fun j hj => ?_) (fun j hj b hbr l hl' hc => ?_) (fun j j' hj hj' hne b hbr => ?_))
        · have := hS'.vals 0
          rw [hr] at this
          exact ptrFree_rep hpr this
        · have := hS'.own _ (hro j hj)
          have e1 : S'.at (.t 0 j) = r.part j := by simp only [PS.at, hr]
          rw [e1] at this
          obtain ⟨xs, e2, hh2⟩ := this
          refine ⟨xs, e2, ?_⟩
          rcases hh2 with hh2 | ⟨b, c, cur, E, sz, q1, q2, q3, q4, q5, q6, q7, q8, q9⟩
          · exact .inl hh2
          · refine .inr ⟨b, c, cur, E, sz, q1, q2, q3, q4, q5, q6, q7, q8, ?_⟩
            rcases q9 with q9 | q9
            · exact .inl (Nat.le_trans h.size q9)
            · exact q9.elim
        · have hown := hS'.own _ (hro j hj)
          obtain ⟨xs, e2, hh2⟩ := hown
          have hbn : w.heap.size ≤ b := by
            rcases hh2 with ⟨A, n, q⟩ | ⟨b', c, cur, E, sz, q1, q2, q3, q4, q5, q6, q7, q8, q9⟩
            · have q' : vpart v j = .slice A n n := q
              rw [q'] at hbr
              cases A <;> simp [rowOf] at hbr
            · have q' : vpart v j = .slice (some ⟨b', 0, none⟩) xs.length c := q1
              rw [q'] at hbr
              simp [rowOf, q2] at hbr
              subst hbr
              rcases q9 with q9 | q9
              · exact q9
              · exact q9.elim
          intro hcon
          have hvl : vat a w' β l = vat a w β l := by
            cases l with
            | t i j => rfl
            | b n k =>
              obtain ⟨⟨cs, E, hcc, _⟩, _, _⟩ := h.boxes n (h.live n k hl').1
              simp only [vat]
              rw [hfx.cell (Array.getElem?_eq_some_iff.1 hcc).1]
          rw [hvl] at hcon
          have := (h.own l hl').row hcon
          omega
        · exact hS'.oinj (.t 0 j) (.t 0 j') (hro j hj) (hro j' hj') (fun e => hne (by cases e; rfl)) b hbr
  · exact hplain hs

/-- Is an operation to be done? -/
def gd (ops : Array Oper) (o : Oper) (S : PS) : Bool :=
  match o.guard with
  | none => true
  | some (j, want) =>
    match (ops[j]?).bind (·.dst) with
    | some d => match S.t d with | .d (.bool b) => b == want | _ => false
    | none => false

theorem not_bool {gen : Nat → Nat} {v : Value} {p : PV} (h : PRep w fr β gen v p) (hp : ∀ b, p ≠ .d (.bool b)) (b : Bool) : v ≠ .bool b := by
  cases h with
  | d v x h =>
    cases h with
    | bool b' => exact absurd rfl (hp b')
    | opq v hb _ => exact hb b
    | _ => simp
  | any v hb => exact hb b
  | _ => simp

theorem gd_sound (h : Sim N tch w0 fr0 S a w fr β) (ops : Array Oper) (o : Oper) (hd : ∀ (j : Nat) (x : Oper) (d : Nat), ops[j]? = some x → x.dst = some d → d < N) : Region.wanted o (yielded ops a.tmps) = gd ops o S := by
  unfold Region.wanted gd
  cases hg : o.guard with
  | none => rfl
  | some g =>
    obtain ⟨j, want⟩ := g
    simp only
    unfold yielded
    cases hj : (ops[j]?).bind (·.dst) with
    | none => rfl
    | some d =>
      simp only [Option.bind_some]
      have hdN : d < a.tmps.size := by
        rw [h.ntmps]
        obtain ⟨x, hx, hxd⟩ := Option.bind_eq_some_iff.1 hj
        exact hd j x d hx hxd
      have hv := h.vals d
      have hgd : a.tmps.getD d undef = a.tmps[d] := by simp [Array.getD_eq_getD_getElem?, hdN]
      rw [hgd] at hv
      rw [Array.getElem?_eq_getElem hdN]
      generalize a.tmps[d] = z at hv
      by_cases hb : ∃ b, S.t d = .d (.bool b)
      · obtain ⟨b, hb⟩ := hb
        rw [hb] at hv
        rw [inv_bool hv, hb]
        cases b <;> cases want <;> rfl
      · have hnb := not_bool hv fun b e => hb ⟨b, e⟩
        have e2 : (match S.t d with | .d (.bool b) => b == want | _ => false) = false := by
          split
          · rename_i b e
            exact absurd ⟨b, e⟩ hb
          · rfl
        rw [e2]
        cases z <;> first | rfl | exact absurd rfl (hnb _)

def skipE (o : Oper) : Eff := ⟨o.dst, .undef, fun _ => false, fun _ => false, none⟩
/-- One operation's effect, its guard heeded. -/
def Stp (P : Program) (N : Nat) (tr : List Nat) (ops : Array Oper) (o : Oper) (S : PS) (E : Eff) : Prop :=
  if gd ops o S = true then opStep P N tr o S E else dstOk N o = true ∧ E = skipE o

def dstsOk (N : Nat) (ops : Array Oper) : Bool := ops.toList.all (dstOk N)
theorem dstsOk_spec {ops : Array Oper} (h : dstsOk N ops = true) (j : Nat) (x : Oper) (d : Nat) (hx : ops[j]? = some x) (hd : x.dst = some d) : d < N := by
  have := List.all_eq_true.1 h x (List.mem_of_getElem? (by simpa using hx))
  unfold dstOk at this
  rw [hd] at this
  simpa using this

theorem stp_sound {Q : Exit → Act → World → Prop} (h : Sim N tch w0 fr0 S a w fr β) {tr : List Nat} {ops : Array Oper} (hN : dstsOk N ops = true) {i : Nat} {o : Oper} (hi : ops[i]? = some o) {E : Eff} (hs : Stp P N tr ops o S E) {K : Act → World → Prop}
    (hK : ∀ a' w' fr' β', Sim N tch w0 fr0 (E.apply S) a' w' fr' β' → K a' w') : wpOp P ops Q i K a w := by
  unfold wpOp
  rw [hi]
  simp only
  rw [gd_sound h ops o (dstsOk_spec hN)]
  unfold Stp at hs
  split at hs
  · rename_i hg
    rw [if_pos hg]
    exact .inl (opStep_sound h hs hK)
  · rename_i hg
    rw [if_neg hg]
    obtain ⟨hd, rfl⟩ := hs
    refine hK _ _ fr β (h.put0 o.dst undef .undef (fun d e => dstsOk_spec hN i o d hi e) opq_undef)
end

end BoEng
