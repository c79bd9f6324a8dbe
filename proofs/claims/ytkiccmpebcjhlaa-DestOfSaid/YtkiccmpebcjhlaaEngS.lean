/- Whole functions. -/
import Derived.Test.YtkiccmpebcjhlaaEngR
namespace BoEng
open Go Go.RowKit

/-- What a result variable tells, and whether it is one's own. -/
def resPV (P : Program) (S : PS) : ResultVar → Option (PV × Bool)
  | .tmp t =>
    match S.t t with
    | .bsl n g len => if g = S.gen n ∧ len = (S.box n).length then (toD (S.box n)).bind fun ds => if ds.all fun d => (cells d).length == 1 then some (.d (.slice ds), true) else none else none
    | .d x => some (.d x, S.own (.t t 0))
    | .cptr c => some (.cptr c, false)
    | .fn f [] => some (.fn f [], false)
    | _ => none
  | .cell a t =>
    match loadPV P S t (.tmp a) with
    | some (.d x) => some (.d x, false)
    | _ => none
def resAll (P : Program) (S : PS) : List ResultVar → Option (List (PV × Bool))
  | [] => some []
  | r :: l => (resPV P S r).bind fun x => (resAll P S l).map (x :: ·)
def pack : List (PV × Bool) → PV
  | [x] => x.1
  | l => .tup (l.map (·.1))
def tmpsOf : List ResultVar → List Nat
  | [] => []
  | .tmp t :: l => t :: tmpsOf l
  | _ :: l => tmpsOf l
def resOk (l : List ResultVar) : Bool := decide (tmpsOf l).Nodup
/-- What a function hands back. -/
def retQ (P : Program) (rs : List ResultVar) (r : PV) (ro : Nat → Bool) (e : Exit) (S : PS) : Prop :=
  match e with
  | .normal => ∃ l, resAll P S rs = some l ∧ r = pack l ∧ ∀ j, ro j = true → (l.getD j (.any, false)).2 = true
  | .ret => ∃ l, resAll P S rs = some l ∧ r = pack l ∧ ∀ j, ro j = true → (l.getD j (.any, false)).2 = true
  | _ => False

section
variable {P : Program} {N : Nat} {S : PS} {a : Act} {w0 w : World} {fr0 fr : Nat → Option Nat} {β : Nat → Nat}

/-- The boxes are let go: their blocks are written no more. -/
def letGo (w0 : World) (fr : Nat → Option Nat) : Nat → Option Nat := fun b => if b < w0.heap.size then fr b else if fr b = some 0 then none else fr b

theorem letGo_dext : DExt w fr w (letGo w0 fr) := by
  refine ⟨fun _ _ _ h _ => h, fun b f' _ h => ?_, Nat.le_refl _⟩
  unfold letGo at h
  split at h
  · exact ⟨f', h, Nat.le_refl _⟩
  · split at h
    · cases h
    · exact ⟨f', h, Nat.le_refl _⟩

theorem resPV_sound (h : Sim N (fun _ => False) w0 fr0 S a w fr β) {rv : ResultVar} {x : PV × Bool} (hx : resPV P S rv = some x) :
    ∃ v, (match rv with | .tmp t => (pure (a.tmps.getD t undef) : Sem Value) | .cell c t => do loadVar t (← asAddr (a.tmps.getD c undef))).run P w = .ok v w ∧ PRep w (letGo w0 fr) (fun _ => 0) (fun _ => 0) v x.1 ∧
      (x.2 = true → OwnOk (fun _ => False) w0 w (letGo w0 fr) v x.1 ∧ ∀ b, rowOf v = some b → ∃ t, rv = .tmp t ∧ S.own (.t t 0) = true ∧ vat a w β (.t t 0) = v) := by
  cases rv with
  | tmp t =>
    simp only [resPV] at hx
    have hv := h.vals t
    split at hx
    · rename_i n g len hs
      rw [hs] at hv
      split at hx
      · rename_i hc
        simp only [Option.bind_eq_some_iff] at hx
        obtain ⟨ds, hds, hx⟩ := hx
        split at hx
        · rename_i hall
          cases hx
          have hsp := toD_spec _ _ hds
          obtain ⟨A, ev, h0, hA⟩ := inv_bsl hv
          have hA := hA hc.1
          subst hA
          have hgn : 0 < S.gen n := by rw [← hc.1]; exact h0
          obtain ⟨⟨cs, E, hcc, hcs, hcp⟩, hreg, hmine⟩ := h.boxes n hgn
          have hmine' : w0.heap.size ≤ β n := hmine.resolve_right (by simp)
          have hlen : ds.length = len := by rw [hc.2, hsp]; simp
          have h1 : ∀ d ∈ ds, (cells d).length = 1 := fun d hd => by simpa using List.all_eq_true.1 hall d hd
          have hcell : ∀ k, w.cell? ⟨β n, k, none⟩ = cs[k]? := fun k => by simp only [World.cell?, hcc]; rfl
          have hcl : cs.size = ds.length := by rw [hcs, hsp]; simp
          refine ⟨_, rfl, .d _ _ ?_, fun _ => ⟨⟨ds, rfl, .inl ⟨some ⟨β n, 0, none⟩, len, ev⟩⟩, fun b hb => ?_⟩⟩
          · rw [ev, ← hlen]
            refine .slice _ _ 1 (fun k => cs.getD k undef) ds (Nat.le_refl _) h1 (fun _ => ⟨_, rfl, rfl, fun f hf => ?_, fun k hk => ?_⟩) (fun k hk => ?_) (fun k p hp => ?_)
            · unfold letGo at hf
              rw [if_neg (by simp only; omega), if_pos hreg] at hf
              cases hf
            · rw [Nat.mul_one] at hk
              rw [Nat.zero_add, hcell]
              have : k < cs.size := by omega
              simp [this, Array.getD_eq_getD_getElem?]
            · rw [Nat.mul_one] at hk
              have hk' : k < cs.size := by omega
              have hp : (S.box n)[k]? = some (.d ds[k]) := by rw [hsp]; simp [hk]
              have := (hcp k cs[k] _ (by simp [hk']) hp).2
              simpa [Array.getD_eq_getD_getElem?, hk'] using this
            · have hk : k < ds.length := by
                have := (List.getElem?_eq_some_iff.1 hp).1
                rw [flat_length h1] at this
                omega
              have hk' : k < cs.size := by omega
              have hfl := flat_at h1 k ds[k] (List.getElem?_eq_getElem hk) 0 (by omega)
              rw [Nat.mul_one, Nat.add_zero] at hfl
              rw [hfl] at hp
              have hdk : ds[k] = p := by
                have h1k := h1 ds[k] (List.getElem_mem hk)
                have hcr := hcp k cs[k] (.d ds[k]) (by simp [hk']) (by rw [hsp]; simp [hk])
                have ho := hcr.2
                cases hd : ds[k] with
                | agg cc =>
                  rw [hd] at hcr
                  have := inv_d hcr.1
                  obtain ⟨vs, e, _⟩ := agg_inv this
                  rw [e] at ho
                  simp [one, Value.oneCell'] at ho
                | _ => rw [hd] at hp; simp [cells] at hp; exact hp
              have hp2 : (S.box n)[k]? = some (.d p) := by rw [hsp, ← hdk]; simp [hk]
              have := inv_d (hcp k cs[k] _ (by simp [hk']) hp2).1
              have e3 : cs.getD k undef = cs[k] := by simp [Array.getD_eq_getD_getElem?, hk']
              show DRep _ _ (cs.getD k undef) p
              rw [e3]
              exact this.mono letGo_dext
          · rw [ev] at hb
            simp [rowOf] at hb
        · cases hx
      · cases hx
    · rename_i d hs
      cases hx
      rw [hs] at hv
      refine ⟨_, rfl, .d _ _ ((inv_d hv).mono letGo_dext), fun ho => ?_⟩
      have hown := h.own _ ho
      have e1 : S.at (.t t 0) = .d d := by simp only [PS.at, hs, PV.part]
      rw [e1] at hown
      obtain ⟨A, n, c, hvv⟩ := own_vpart hown
      have e2 : vat a w β (.t t 0) = a.tmps.getD t undef := by
        obtain ⟨xs, e, _⟩ := hown
        cases e
        obtain ⟨A', cap, sz, us, ev, _⟩ := slice_inv (inv_d hv)
        simp only [vat, ev]
        rfl
      rw [e2] at hown
      refine ⟨hown.same fun b hb => ⟨rfl, ?_⟩, fun b hb => ⟨t, rfl, ho, e2⟩⟩
      obtain ⟨xs, e, hh⟩ := hown
      rcases hh with ⟨A', n', e'⟩ | ⟨b', c', cur, E, sz, e', q2, q3, q4, q5, q6, q7, q8, q9⟩
      · rw [e'] at hb
        cases A' <;> simp [rowOf] at hb
      · rw [e'] at hb
        simp [rowOf, q2] at hb
        subst hb
        unfold letGo
        split
        · rfl
        · split
          · rename_i h0
            rw [q8] at h0
            have : xs.length * sz = 0 := by simpa using h0
            rcases Nat.mul_eq_zero.1 this with h' | h' <;> omega
          · rfl
    · rename_i c hs
      cases hx
      rw [hs] at hv
      refine ⟨_, rfl, ?_, by simp⟩
      exact ptrFree_rep rfl (hv.mono letGo_dext (GExt.refl β S.gen))
    · rename_i f hs
      cases hx
      rw [hs] at hv
      refine ⟨_, rfl, ?_, by simp⟩
      exact ptrFree_rep rfl (hv.mono letGo_dext (GExt.refl β S.gen))
    · cases hx
  | cell c t =>
    simp only [resPV] at hx
    split at hx
    · rename_i d hl
      cases hx
      obtain ⟨v, hrun, hr, _⟩ := load_sound (P := P) h hl
      refine ⟨v, ?_, .d _ _ ((inv_d hr).mono letGo_dext), by simp⟩
      simp only [Instr.loadAt, Act.eval] at hrun
      -- the address
      have hc : ∃ ad, a.tmps.getD c undef = .pointer (some ad) := by
        have hv := h.vals c
        unfold loadPV at hl
        simp only [PS.ev] at hl
        split at hl
        · rename_i n g o hs
          rw [hs] at hv
          generalize a.tmps.getD c undef = u at hv
          cases hv
          exact ⟨_, rfl⟩
        · rename_i cs hs
          rw [hs] at hv
          generalize a.tmps.getD c undef = u at hv
          cases hv
          exact ⟨_, rfl⟩
        · cases hl
      obtain ⟨ad, had⟩ := hc
      rw [had] at hrun
      simp only [had]
      simpa [Instr.sureAddr, asAddr] using hrun
    · cases hx


def resF (a : Act) : ResultVar → Sem Value
  | .tmp t => pure (a.tmps.getD t undef)
  | .cell c t => do loadVar t (← asAddr (a.tmps.getD c undef))

theorem resAll_sound (h : Sim N (fun _ => False) w0 fr0 S a w fr β) : ∀ (rs : List ResultVar) (l : List (PV × Bool)), resAll P S rs = some l →
    ∃ vs : List Value, (rs.mapM (resF a)).run P w = .ok vs w ∧ vs.length = l.length ∧ ∀ (k : Nat) (v : Value) (x : PV × Bool), vs[k]? = some v → l[k]? = some x →
      PRep w (letGo w0 fr) (fun _ => 0) (fun _ => 0) v x.1 ∧
      (x.2 = true → OwnOk (fun _ => False) w0 w (letGo w0 fr) v x.1 ∧ ∀ b, rowOf v = some b → ∃ t, rs[k]? = some (.tmp t) ∧ S.own (.t t 0) = true ∧ vat a w β (.t t 0) = v)
  | [], l, hl => by
    simp [resAll] at hl
    subst hl
    exact ⟨[], by simp, rfl, by simp⟩
  | r :: rs, l, hl => by
    simp only [resAll, Option.bind_eq_some_iff, Option.map_eq_some_iff] at hl
    obtain ⟨x, hx, l', hl', rfl⟩ := hl
    obtain ⟨v, hv, hr, ho⟩ := resPV_sound (P := P) h hx
    obtain ⟨vs, hvs, hlen, hall⟩ := resAll_sound h rs l' hl'
    have hv' : (resF a r).run P w = .ok v w := by
      cases r <;> exact hv
    refine ⟨v :: vs, by simp [List.mapM_cons, hv', hvs], by simp [hlen], fun k u y hu hy => ?_⟩
    cases k with
    | zero =>
      cases hu
      cases hy
      refine ⟨hr, fun h2 => ⟨(ho h2).1, fun b hb => ?_⟩⟩
      obtain ⟨t, e, rest⟩ := (ho h2).2 b hb
      exact ⟨t, by rw [e]; rfl, rest⟩
    | succ k =>
      obtain ⟨h1, h2⟩ := hall k u y (by simpa using hu) (by simpa using hy)
      exact ⟨h1, fun h3 => by simpa using h2 h3⟩

def packV : List Value → Value
  | [v] => v
  | vs => .tuple vs.toArray

theorem results_run {fn : Func} {vs : List Value} (hvs : (fn.results.toList.mapM (resF a)).run P w = .ok vs w) :
    (results fn a.tmps).run P w = .ok (packV vs) w := by
  have hm : (fn.results.mapM (resF a)).run P w = .ok vs.toArray w := by
    rw [Array.mapM_eq_mapM_toList]
    simp [hvs]
  have hr : results fn a.tmps = (do
      let vs ← fn.results.mapM (resF a)
      pure (if h : vs.size = 1 then vs[0] else .tuple vs) : Sem Value) := rfl
  rw [hr, Sem.run_bind, hm]
  simp only [Result.andThen_ok, Sem.run_pure]
  cases vs with
  | nil => rfl
  | cons v vs =>
    cases vs with
    | nil => rfl
    | cons u vs => simp [packV]

theorem tmps_at : ∀ (rs : List ResultVar), (tmpsOf rs).Nodup → ∀ (j j' t : Nat), rs[j]? = some (ResultVar.tmp t) → rs[j']? = some (ResultVar.tmp t) → j = j'
  | [], _, j, j', t, h, _ => by simp at h
  | r :: rs, hn, j, j', t, h, h' => by
    have hmem : ∀ (rs : List ResultVar) (k t : Nat), rs[k]? = some (ResultVar.tmp t) → t ∈ tmpsOf rs := by
      intro rs
      induction rs with
      | nil => intro k t h; simp at h
      | cons r rs ih =>
        intro k t h
        cases k with
        | zero => simp at h; subst h; simp [tmpsOf]
        | succ k =>
          have := ih k t (by simpa using h)
          cases r <;> simp [tmpsOf, this]
    have hn' : (tmpsOf rs).Nodup := by
      cases r with
      | tmp t => simp [tmpsOf] at hn; exact hn.2
      | cell _ _ => exact hn
    cases j with
    | zero =>
      cases j' with
      | zero => rfl
      | succ j' =>
        simp at h
        subst h
        have := hmem rs j' t (by simpa using h')
        simp [tmpsOf] at hn
        exact absurd this hn.1
    | succ j =>
      cases j' with
      | zero =>
        simp at h'
        subst h'
        have := hmem rs j t (by simpa using h)
        simp [tmpsOf] at hn
        exact absurd this hn.1
      | succ j' =>
        rw [tmps_at rs hn' j j' t (by simpa using h) (by simpa using h')]

theorem resPV_free {rv : ResultVar} {x : PV × Bool} (hx : resPV P S rv = some x) : (match x.1 with | .d _ => true | .cptr _ => true | .fn _ [] => true | _ => false) = true := by
  cases rv with
  | tmp t =>
    simp only [resPV] at hx
    split at hx
    · split at hx
      · simp only [Option.bind_eq_some_iff] at hx
        obtain ⟨ds, _, hx⟩ := hx
        split at hx <;> cases hx
        rfl
      · cases hx
    · cases hx; rfl
    · cases hx; rfl
    · cases hx; rfl
    · cases hx
  | cell c t =>
    simp only [resPV] at hx
    split at hx <;> cases hx
    rfl

theorem resAll_free : ∀ {rs : List ResultVar} {l : List (PV × Bool)}, resAll P S rs = some l → ∀ x ∈ l, (match x.1 with | .d _ => true | .cptr _ => true | .fn _ [] => true | _ => false) = true
  | [], l, hl => by simp [resAll] at hl; subst hl; simp
  | r :: rs, l, hl => by
    simp only [resAll, Option.bind_eq_some_iff, Option.map_eq_some_iff] at hl
    obtain ⟨x, hx, l', hl', rfl⟩ := hl
    intro y hy
    rcases List.mem_cons.1 hy with rfl | hy
    · exact resPV_free hx
    · exact resAll_free hl' y hy

/-- A function, by the weakest precondition of its body. -/
theorem Holds.of (hm : P.follows .mixedOrders = true) {f : FuncId} {fn : Func} {c : Code} (hf : P.funcs[f]? = some fn) (hname : (fn.name == "runtime.NumGoroutine") = false) (hb : fn.body = some c) (tr : List Nat) {args : List PV}
    (hargs : args.length ≤ fn.ntmps) (hok : codeOk fn.ntmps tr c = true) (hres : resOk fn.results.toList = true) {r : PV} {ro : Nat → Bool} (hfree : ptrFree r = true)
    (h : pwp P fn.ntmps tr c (retQ P fn.results.toList r ro) (PS.start args)) : Holds P f args r ro := by
  refine ⟨⟨fn, c, hf, hname, hb⟩, hfree, fun vs w fr hvs hfrb hrep => ?_⟩
  refine calls_of_wp hf hb ?_
  have hS : Sim fn.ntmps (fun _ => False) w fr (PS.start args) ⟨vs ++ Array.replicate (fn.ntmps - vs.size) undef, []⟩ w fr (fun _ => 0) := by
    refine ⟨rfl, by simp; omega, rfl, rfl, rfl, Nat.le_refl _, hfrb, fun _ _ _ => ⟨rfl, rfl⟩, fun _ h => h.elim, fun i => ?_, fun n hn => by simp [PS.start] at hn, fun n m hn => by simp [PS.start] at hn, fun l hl => by simp [PS.start] at hl, fun n k hl => by simp [PS.start] at hl, fun l l' hl => by simp [PS.start] at hl⟩
    simp only [PS.start, Array.getD_eq_getD_getElem?, List.getD_eq_getElem?_getD]
    by_cases hi : i < vs.size
    · rw [Array.getElem?_append_left hi, Array.getElem?_eq_getElem hi, List.getElem?_eq_getElem (by omega)]
      exact hrep i _ _ (Array.getElem?_eq_getElem hi) (List.getElem?_eq_getElem (by omega))
    · rw [Array.getElem?_append_right (by omega), List.getElem?_eq_none (by omega)]
      have : ((Array.replicate (fn.ntmps - vs.size) undef)[i - vs.size]?).getD undef = undef := by
        rw [Array.getElem?_replicate]
        split <;> rfl
      rw [this]
      exact opq_undef
  refine wp_mono (pwp_sound (tch := fun _ => False) (w0 := w) (fr0 := fr) hm c hok _ _ h _ w fr _ hS) fun e a' w' hq => ?_
  obtain ⟨S', fr', β', hq, hS'⟩ := hq
  have key : (∃ l, resAll P S' fn.results.toList = some l ∧ r = pack l ∧ ∀ j, ro j = true → (l.getD j (.any, false)).2 = true) →
      a'.defers = [] ∧ ∃ v, (results fn a'.tmps).run P w' = .ok v w' ∧ ∃ v' fr' S' β', Ending.returned v = .returned v' ∧ Sim 1 (fun _ => False) w fr S' (res v') w' fr' β' ∧ S'.t 0 = r ∧ ∀ j, ro j = true → S'.own (.t 0 j) = true := by
    rintro ⟨l, hl, hr, hro⟩
    refine ⟨hS'.defers, ?_⟩
    obtain ⟨vs', hvs', hlen, hall⟩ := resAll_sound (P := P) hS' _ l hl
    have hfl := resAll_free hl
    refine ⟨_, results_run hvs', _, letGo w fr', ⟨fun i => if i = 0 then r else .undef, fun _ => [], fun _ => 0, fun l => match l with | .t 0 j => ro j | _ => false⟩, fun _ => 0, rfl, ?_, rfl, fun j hj => hj⟩
    obtain ⟨V, hV⟩ : ∃ V, V = packV vs' := ⟨_, rfl⟩
    rw [← hV]
    -- the parts
    have hpart : ∀ j, ro j = true → ∃ x v, l[j]? = some x ∧ vs'[j]? = some v ∧ x.2 = true ∧ vpart V j = v ∧ r.part j = x.1 := by
      intro j hj
      have h2 := hro j hj
      rw [List.getD_eq_getElem?_getD] at h2
      cases hx : l[j]? with
      | none => rw [hx] at h2; cases h2
      | some x =>
        rw [hx] at h2
        have hjl : j < vs'.length := by
          rw [hlen]
          exact (List.getElem?_eq_some_iff.1 hx).1
        have hown := ((hall j _ x (List.getElem?_eq_getElem hjl) hx).2 h2).1
        obtain ⟨xs, e, hh⟩ := hown
        have hnt : ∃ A n c, vs'[j] = .slice A n c := by
          rcases hh with ⟨A, n, e'⟩ | ⟨b, c, cur, E, sz, e', _⟩
          · exact ⟨A, n, n, e'⟩
          · exact ⟨_, _, _, e'⟩
        obtain ⟨A, n, c, ev⟩ := hnt
        refine ⟨x, vs'[j], rfl, List.getElem?_eq_getElem hjl, h2, ?_, ?_⟩
        · rw [hV]
          cases vs' with
          | nil => simp at hjl
          | cons v1 vs1 =>
            cases vs1 with
            | nil =>
              have : j = 0 := by simp at hjl; exact hjl
              subst this
              simp only [List.getElem_cons_zero] at ev ⊢
              rw [ev]
              rfl
            | cons v2 vs2 =>
              simp only [vpart, packV]
              rw [Array.getD_eq_getD_getElem?, List.getElem?_toArray, List.getElem?_eq_getElem hjl]
              rfl
        · rw [hr]
          cases l with
          | nil => simp at hx
          | cons x1 l1 =>
            cases l1 with
            | nil =>
              have : j = 0 := by
                have := (List.getElem?_eq_some_iff.1 hx).1
                simpa using this
              subst this
              simp at hx
              subst hx
              simp only [pack]
              rw [e]
              rfl
            | cons x2 l2 =>
              simp only [pack, PV.part]
              rw [List.getD_eq_getElem?_getD, List.getElem?_map, hx]
              rfl
    have hvl : ∀ i j, vat (res V) w' (fun _ => 0) (.t i j) = if i = 0 then vpart V j else vpart undef j := by
      intro i j
      simp only [vat, res, Array.getD_eq_getD_getElem?]
      by_cases hi : i = 0
      · subst hi; rfl
      · rw [if_neg hi]
        have : (#[V] : Array Value)[i]? = none := by simp; omega
        rw [this]
        rfl
    refine ⟨rfl, rfl, hS'.os, hS'.tape, hS'.output, hS'.size, fun b f hf => ?_, fun b hb _ => ?_, fun _ h => h.elim, fun i => ?_, fun n hn => by simp at hn, fun n m hn => by simp at hn, fun lo hlo => ?_, fun n k hlo => by simp at hlo, fun lo lo' hlo hlo' hne b hb => ?_⟩
    · unfold letGo at hf
      split at hf
      · exact hS'.frb b f hf
      · split at hf
        · cases hf
        · exact hS'.frb b f hf
    · have := hS'.frame b hb (by simp)
      refine ⟨this.1, ?_⟩
      unfold letGo
      rw [if_pos hb]
      exact this.2
    · simp only [res, Array.getD_eq_getD_getElem?]
      by_cases hi : i = 0
      · subst hi
        rw [if_pos rfl]
        show PRep w' (letGo w fr') _ _ V r
        rw [hr, hV]
        cases vs' with
        | nil =>
          have : l = [] := List.eq_nil_of_length_eq_zero hlen.symm
          subst this
          exact .tup [] [] rfl (by simp)
        | cons v1 vs1 =>
          cases l with
          | nil => simp at hlen
          | cons x1 l1 =>
            cases vs1 with
            | nil =>
              have : l1 = [] := List.eq_nil_of_length_eq_zero (by simpa using hlen.symm)
              subst this
              exact (hall 0 v1 x1 rfl rfl).1
            | cons v2 vs2 =>
              cases l1 with
              | nil => simp at hlen
              | cons x2 l2 =>
                refine .tup (v1 :: v2 :: vs2) _ (by simpa using hlen) fun k v p hv hp => ?_
                rw [List.getElem?_map] at hp
                cases hx : (x1 :: x2 :: l2)[k]? with
                | none => rw [hx] at hp; cases hp
                | some x =>
                  rw [hx] at hp
                  cases hp
                  exact (hall k v x hv hx).1
      · rw [if_neg hi]
        have : (#[V] : Array Value)[i]? = none := by simp; omega
        rw [this]
        exact opq_undef
    · cases lo with
      | b n k => simp at hlo
      | t i j =>
        cases i with
        | succ i => simp at hlo
        | zero =>
          simp only at hlo
          obtain ⟨x, v, hx, hv, h2, e1, e2⟩ := hpart j hlo
          rw [hvl, if_pos rfl, e1]
          have : PS.at ⟨fun i => if i = 0 then r else .undef, fun _ => [], fun _ => 0, fun l => match l with | .t 0 j => ro j | _ => false⟩ (.t 0 j) = r.part j := by simp [PS.at]
          rw [this, e2]
          exact ((hall j v x hv hx).2 h2).1
    · cases lo with
      | b n k => simp at hlo
      | t i j =>
        cases lo' with
        | b n k => simp at hlo'
        | t i' j' =>
          cases i with
          | succ i => simp at hlo
          | zero =>
            cases i' with
            | succ i' => simp at hlo'
            | zero =>
              simp only at hlo hlo'
              obtain ⟨x, v, hx, hv, h2, e1, e2⟩ := hpart j hlo
              obtain ⟨x', v', hx', hv', h2', e1', e2'⟩ := hpart j' hlo'
              rw [hvl, if_pos rfl, e1] at hb
              rw [hvl, if_pos rfl, e1']
              intro hb'
              obtain ⟨t, ht, ho, ev⟩ := ((hall j v x hv hx).2 h2).2 b hb
              obtain ⟨t', ht', ho', ev'⟩ := ((hall j' v' x' hv' hx').2 h2').2 b hb'
              by_cases htt : t = t'
              · subst htt
                have hnd : (tmpsOf fn.results.toList).Nodup := by simpa [resOk] using hres
                have := tmps_at _ hnd j j' t ht ht'
                subst this
                exact hne rfl
              · refine hS'.oinj (.t t 0) (.t t' 0) ho ho' (fun e => htt (by cases e; rfl)) b (by rw [ev]; exact hb) (by rw [ev']; exact hb')
  cases e with
  | normal => exact key hq
  | ret => exact key hq
  | _ => exact hq.elim
end

end BoEng
