/- Whole functions. -/
import Derived.Test.YtoamihggbaaohaaEngR
namespace BoEng
open Go Go.RowKit

/-- What a result variable tells, and whether it is one's own: boxes are let go. -/
def resPV (P : Program) (S : PS) : ResultVar → Option (PV × Bool)
  | .tmp t =>
    match S.t t with
    | .d x => some (.d x, S.own (.t t 0) && isSl (.d x))
    | .cptr c => some (.cptr c, false)
    | .fn f [] => some (.fn f [], false)
    | .bsl n g len sz ag => (thawed S n g len sz ag).map fun xs => (.d (.slice xs), decide (0 < len ∧ (S.box n).length = len * sz))
    | .pa cs => (frzL S cs).map fun x => (.d (.agg x.1), false)
    | _ => none
  | .cell a t => (loadPV P S t (.tmp a)).bind fun r => (frzV S r).map fun x => (.d x.1, false)
def resAll (P : Program) (S : PS) : List ResultVar → Option (List (PV × Bool))
  | [] => some []
  | r :: l => (resPV P S r).bind fun x => (resAll P S l).map (x :: ·)
/-- What a result variable tells to one who has handed boxes. -/
def resM (P : Program) (S : PS) : ResultVar → Option (PV × Bool)
  | .tmp t => match S.t t with | .tup _ => none | p => some (p, S.own (.t t 0) && isSl p)
  | .cell a t => match loadPV P S t (.tmp a) with | some (.tup _) => none | some p => some (p, false) | none => none
def resAllM (P : Program) (S : PS) : List ResultVar → Option (List (PV × Bool))
  | [] => some []
  | r :: l => (resM P S r).bind fun x => (resAllM P S l).map (x :: ·)
def pack : List (PV × Bool) → PV
  | [x] => x.1
  | l => .tup (l.map (·.1))
def tmpsOf : List ResultVar → List Nat
  | [] => []
  | .tmp t :: l => t :: tmpsOf l
  | _ :: l => tmpsOf l
def resOk (l : List ResultVar) : Bool := decide (tmpsOf l).Nodup
/-- The boxes that are handed out as slices. -/
def srcsOf (S : PS) : List ResultVar → List Nat
  | [] => []
  | .tmp t :: l => match S.t t with | .bsl n _ _ _ _ => n :: srcsOf S l | _ => srcsOf S l
  | _ :: l => srcsOf S l
/-- What a function hands back. -/
def retQ (P : Program) (rs : List ResultVar) (r : PV) (ro : Nat → Bool) (e : Exit) (S : PS) : Prop :=
  match e with
  | .normal => ∃ l, resAll P S rs = some l ∧ r = pack l ∧ (srcsOf S rs).Nodup ∧ ∀ j, ro j = true → (l.getD j (.any, false)).2 = true
  | .ret => ∃ l, resAll P S rs = some l ∧ r = pack l ∧ (srcsOf S rs).Nodup ∧ ∀ j, ro j = true → (l.getD j (.any, false)).2 = true
  | _ => False
/-- The same, where boxes were handed. -/
def retM (P : Program) (rs : List ResultVar) (r : PV) (ro : Nat → Bool) (post : List Upd) (e : Exit) (S : PS) : Prop :=
  match e with
  | .normal => (∃ l, resAllM P S rs = some l ∧ r = pack l ∧ ∀ j, ro j = true → (l.getD j (.any, false)).2 = true) ∧ ∀ u ∈ post, S.gen u.n = u.g ∧ S.box u.n = u.c ∧ ∀ k, u.o k = true → S.own (.b u.n k) = true
  | .ret => (∃ l, resAllM P S rs = some l ∧ r = pack l ∧ ∀ j, ro j = true → (l.getD j (.any, false)).2 = true) ∧ ∀ u ∈ post, S.gen u.n = u.g ∧ S.box u.n = u.c ∧ ∀ k, u.o k = true → S.own (.b u.n k) = true
  | _ => False

section
variable {P : Program} {N : Nat} {S : PS} {a : Act} {w0 w : World} {fr0 fr : Nat → Option Nat} {β : Nat → Blk} {tch : Env}

open Classical in
/-- How much of a block is a box's content. -/
noncomputable def boxLen (S : PS) (β : Nat → Blk) (b : Nat) : Nat := if h : ∃ n, 0 < S.gen n ∧ 0 < (β n).c ∧ (β n).b = b then (S.box h.choose).length else 0
theorem boxLen_eq (h : Sim N tch w0 fr0 S a w fr β) {n : Nat} (hn : 0 < S.gen n) (hc : 0 < (β n).c) : boxLen S β (β n).b = (S.box n).length := by
  have hx : ∃ m, 0 < S.gen m ∧ 0 < (β m).c ∧ (β m).b = (β n).b := ⟨n, hn, hc, rfl⟩
  unfold boxLen
  rw [dif_pos hx]
  obtain ⟨h1, h2, h3⟩ := hx.choose_spec
  rw [h.binj _ n h1 hn h2 hc h3]

/-- The boxes are let go: their content is written no more. -/
noncomputable def letGo (w0 : World) (S : PS) (β : Nat → Blk) (fr : Nat → Option Nat) : Nat → Option Nat := fun b => if b < w0.heap.size then fr b else if fr b = some 0 then some (boxLen S β b) else fr b

theorem letGo_dext : DExt w fr w (letGo w0 S β fr) := by
  refine ⟨fun _ _ _ h _ => h, fun b f' _ h => ?_, Nat.le_refl _⟩
  unfold letGo at h
  split at h
  · exact ⟨f', h, Nat.le_refl _⟩
  · split at h
    · rename_i h0
      exact ⟨0, h0, Nat.zero_le _⟩
    · exact ⟨f', h, Nat.le_refl _⟩
theorem letGo_at (h : Sim N Env.free w0 fr0 S a w fr β) {n : Nat} (hn : 0 < S.gen n) (hc : 0 < (β n).c) : letGo w0 S β fr (β n).b = some (S.box n).length := by
  have hB := h.boxes n hn
  have hm : w0.heap.size ≤ (β n).b := (hB.mine hc).resolve_right (by simp [Env.free])
  unfold letGo
  rw [if_neg (by omega), if_pos (hB.reg hc), boxLen_eq h hn hc]
theorem letGo_row {b f : Nat} (hf : fr b = some f) (h0 : 0 < f) : letGo w0 S β fr b = some f := by
  unfold letGo
  split
  · exact hf
  · rw [hf, if_neg (by simp; omega)]

theorem cell_run (h : Sim N tch w0 fr0 S a w fr β) {c : Nat} {t : TypeId} {r : PV} (hl : loadPV P S t (.tmp c) = some r) {v : Value} (hrun : (Instr.loadAt t (a.tmps.getD c undef)).run P w = .ok v w) :
    (do loadVar t (← asAddr (a.tmps.getD c undef)) : Sem Value).run P w = .ok v w := by
  unfold Instr.loadAt at hrun
  have hc : ∃ ad, a.tmps.getD c undef = .pointer (some ad) := by
    have hv := h.vals c
    unfold loadPV at hl
    simp only [PS.ev] at hl
    split at hl
    · rename_i n g o hs
      rw [hs] at hv
      generalize a.tmps.getD c undef = u at hv
      cases hv
      exact ⟨_, rfl⟩
    · rename_i cs hs
      rw [hs] at hv
      generalize a.tmps.getD c undef = u at hv
      cases hv
      exact ⟨_, rfl⟩
    · cases hl
  obtain ⟨ad, had⟩ := hc
  rw [had] at hrun
  simp only [had]
  simpa [Instr.sureAddr, asAddr] using hrun

theorem resPV_sound (h : Sim N Env.free w0 fr0 S a w fr β) {rv : ResultVar} {x : PV × Bool} (hx : resPV P S rv = some x) :
    ∃ v, (match rv with | .tmp t => (pure (a.tmps.getD t undef) : Sem Value) | .cell c t => do loadVar t (← asAddr (a.tmps.getD c undef))).run P w = .ok v w ∧ PRep w (letGo w0 S β fr) (fun _ => ⟨0, 0⟩) (fun _ => 0) v x.1 ∧
      (x.2 = true → OwnOk (fun _ => False) w0 w (letGo w0 S β fr) v x.1 ∧ ∀ b, rowOf v = some b → (∃ t, rv = .tmp t ∧ S.own (.t t 0) = true ∧ vat a w β (.t t 0) = v) ∨
        ∃ t n g len sz ag, rv = .tmp t ∧ S.t t = .bsl n g len sz ag ∧ 0 < S.gen n ∧ 0 < (β n).c ∧ b = (β n).b) := by
  have hfz : ∀ n, 0 < S.gen n → 0 < (β n).c → ∃ f, letGo w0 S β fr (β n).b = some f ∧ (S.box n).length ≤ f := fun n hn hc => ⟨_, letGo_at h hn hc, Nat.le_refl _⟩
  cases rv with
  | tmp t =>
    simp only [resPV] at hx
    have hv := h.vals t
    split at hx
    · rename_i d hs
      cases hx
      rw [hs] at hv
      refine ⟨_, rfl, .d _ _ ((inv_d hv).mono letGo_dext), fun ho => ?_⟩
      obtain ⟨ho, hsl⟩ := Bool.and_eq_true_iff.1 ho
      have hown := h.own _ ho
      have e1 : S.at (.t t 0) = .d d := by
        obtain ⟨xs, ex⟩ := isSl_at hsl
        simp only [PS.at, hs, ex]
        rfl
      rw [e1] at hown
      have e2 : vat a w β (.t t 0) = a.tmps.getD t undef := by
        obtain ⟨xs, e, _⟩ := hown
        cases e
        obtain ⟨A', cap, sz, us, ev, _⟩ := slice_inv (inv_d hv)
        simp only [vat, ev]
        rfl
      rw [e2] at hown
      refine ⟨hown.same fun b hb => ⟨rfl, ?_⟩, fun b hb => .inl ⟨t, rfl, ho, e2⟩⟩
      obtain ⟨⟨f, hf, hf0⟩, _⟩ := hown.rowFr hb
      rw [letGo_row hf hf0, hf]
    · rename_i c hs
      cases hx
      rw [hs] at hv
      exact ⟨_, rfl, ptrFree_rep rfl (hv.mono letGo_dext (GExt.refl β S.gen)), by simp⟩
    · rename_i f hs
      cases hx
      rw [hs] at hv
      exact ⟨_, rfl, ptrFree_rep rfl (hv.mono letGo_dext (GExt.refl β S.gen)), by simp⟩
    · rename_i n g len sz ag hs
      simp only [Option.map_eq_some_iff] at hx
      obtain ⟨xs, hxs, rfl⟩ := hx
      rw [hs] at hv
      have hfc : frzC S (.bsl n g len sz ag) = some (.slice xs, [n]) := by simp [frzC, hxs]
      obtain ⟨hr, hg⟩ := frzC_rep h hfc hv letGo_dext (fun m hm h1 h2 => hfz m h1 h2)
      have hgn := hg n (by simp)
      refine ⟨_, rfl, .d _ _ hr, fun ho => ?_⟩
      obtain ⟨hl0, hbl⟩ : 0 < len ∧ (S.box n).length = len * sz := by simpa using ho
      obtain ⟨A, cap, ev, h0, hs0, hAA⟩ := inv_bsl hv
      have hgg : g = S.gen n := by
        unfold thawed at hxs
        split at hxs
        · rename_i hc; exact hc.1
        · cases hxs
      obtain ⟨hA1, hlc, hcap⟩ := hAA hgg
      obtain ⟨hyl, hyz, hle, _, us, hul, hur, huc⟩ := thawed_sound h hxs hgn hs0
      have hB := h.boxes n hgn
      have hcp : 0 < (β n).c := by
        rw [← hcap]
        exact Nat.mul_pos (by omega) hs0
      obtain ⟨cs, E, hcc, hcs, _⟩ := hB.ex hcp
      have hm : w0.heap.size ≤ (β n).b := (hB.mine hcp).resolve_right (by simp [Env.free])
      refine ⟨⟨xs, rfl, ?_⟩, fun b hb => ?_⟩
      · rcases Nat.lt_or_ge len cap with hlt | hge
        · refine .inr ⟨(β n).b, cap, cs, E, sz, by rw [ev, hA1 hcp, hyl], by omega, by omega, hs0, hcc, hyz, by rw [hcs, hcap], by rw [letGo_at h hgn hcp, hbl, hyl], .inl hm⟩
        · have : cap = len := by omega
          exact .inl ⟨A, len, by rw [ev, this]⟩
      · rw [ev, hA1 hcp] at hb
        simp only [rowOf] at hb
        split at hb
        · cases hb
          exact .inr ⟨t, n, g, len, sz, ag, rfl, hs, hgn, hcp, rfl⟩
        · cases hb
    · rename_i cs hs
      simp only [Option.map_eq_some_iff] at hx
      obtain ⟨⟨ys, ns⟩, hxs, rfl⟩ := hx
      rw [hs] at hv
      have hfv : frzV S (.pa cs) = some (.agg ys, ns) := by simp [frzV, hxs]
      exact ⟨_, rfl, .d _ _ (frzV_rep h hfv hv letGo_dext (fun m hm h1 h2 => hfz m h1 h2)).1, by simp⟩
    · cases hx
  | cell c t =>
    simp only [resPV, Option.bind_eq_some_iff, Option.map_eq_some_iff] at hx
    obtain ⟨r, hl, ⟨y, ns⟩, hfv, rfl⟩ := hx
    obtain ⟨v, hrun, hr, _⟩ := load_sound (P := P) h hl
    refine ⟨v, ?_, .d _ _ (frzV_rep h hfv hr letGo_dext (fun m hm h1 h2 => hfz m h1 h2)).1, by simp⟩
    exact cell_run h hl hrun

def resF (a : Act) : ResultVar → Sem Value
  | .tmp t => pure (a.tmps.getD t undef)
  | .cell c t => do loadVar t (← asAddr (a.tmps.getD c undef))

theorem resAll_sound (h : Sim N Env.free w0 fr0 S a w fr β) : ∀ (rs : List ResultVar) (l : List (PV × Bool)), resAll P S rs = some l →
    ∃ vs : List Value, (rs.mapM (resF a)).run P w = .ok vs w ∧ vs.length = l.length ∧ ∀ (k : Nat) (v : Value) (x : PV × Bool), vs[k]? = some v → l[k]? = some x →
      PRep w (letGo w0 S β fr) (fun _ => ⟨0, 0⟩) (fun _ => 0) v x.1 ∧
      (x.2 = true → OwnOk (fun _ => False) w0 w (letGo w0 S β fr) v x.1 ∧ ∀ b, rowOf v = some b → (∃ t, rs[k]? = some (.tmp t) ∧ S.own (.t t 0) = true ∧ vat a w β (.t t 0) = v) ∨
        ∃ t n g len sz ag, rs[k]? = some (.tmp t) ∧ S.t t = .bsl n g len sz ag ∧ 0 < S.gen n ∧ 0 < (β n).c ∧ b = (β n).b)
  | [], l, hl => by
    simp [resAll] at hl
    subst hl
    exact ⟨[], by simp, rfl, by simp⟩
  | r :: rs, l, hl => by
    simp only [resAll, Option.bind_eq_some_iff, Option.map_eq_some_iff] at hl
    obtain ⟨x, hx, l', hl', rfl⟩ := hl
    obtain ⟨v, hv, hr, ho⟩ := resPV_sound (P := P) h hx
    obtain ⟨vs, hvs, hlen, hall⟩ := resAll_sound h rs l' hl'
    have hv' : (resF a r).run P w = .ok v w := by
      cases r <;> exact hv
    refine ⟨v :: vs, by simp [List.mapM_cons, hv', hvs], by simp [hlen], fun k u y hu hy => ?_⟩
    cases k with
    | zero =>
      cases hu
      cases hy
      refine ⟨hr, fun h2 => ⟨(ho h2).1, fun b hb => ?_⟩⟩
      rcases (ho h2).2 b hb with ⟨t, e, rest⟩ | ⟨t, n, g, len, sz, ag, e, rest⟩
      · exact .inl ⟨t, by rw [e]; rfl, rest⟩
      · exact .inr ⟨t, n, g, len, sz, ag, by rw [e]; rfl, rest⟩
    | succ k =>
      obtain ⟨h1, h2⟩ := hall k u y (by simpa using hu) (by simpa using hy)
      exact ⟨h1, fun h3 => by simpa using h2 h3⟩

theorem resM_sound (h : Sim N tch w0 fr0 S a w fr β) {rv : ResultVar} {x : PV × Bool} (hx : resM P S rv = some x) :
    ∃ v, (resF a rv).run P w = .ok v w ∧ PRep w fr β S.gen v x.1 ∧ (x.2 = true → ∃ t, rv = .tmp t ∧ S.own (.t t 0) = true ∧ vat a w β (.t t 0) = v ∧ S.at (.t t 0) = x.1) := by
  cases rv with
  | tmp t =>
    simp only [resM] at hx
    have hnt : (∀ q, S.t t ≠ .tup q) ∧ x = (S.t t, S.own (.t t 0) && isSl (S.t t)) := by
      split at hx
      · cases hx
      · rename_i hne
        cases hx
        exact ⟨fun q e => hne q e, rfl⟩
    obtain ⟨h1, rfl⟩ := hnt
    refine ⟨_, rfl, h.vals t, fun ho => ⟨t, rfl, (Bool.and_eq_true_iff.1 ho).1, ?_, ?_⟩⟩
    · obtain ⟨ho, hsl⟩ := Bool.and_eq_true_iff.1 ho
      obtain ⟨xs, e, hh⟩ := h.own _ ho
      simp only [vat] at hh ⊢
      have hv := h.vals t
      have hp : (S.t t).part 0 = S.t t := by
        obtain ⟨ys, ey⟩ := isSl_at hsl
        rw [ey]
        rfl
      simp only [PS.at] at e
      rw [hp] at e
      rw [e] at hv
      obtain ⟨A', cap, sz, us, ev, _⟩ := slice_inv (inv_d hv)
      rw [ev]
      rfl
    · obtain ⟨ys, ey⟩ := isSl_at (Bool.and_eq_true_iff.1 ho).2
      simp only [PS.at, ey]
      rfl
  | cell c t =>
    simp only [resM] at hx
    split at hx
    · cases hx
    · rename_i p hne hl
      cases hx
      obtain ⟨v, hrun, hr, _⟩ := load_sound (P := P) h hl
      exact ⟨v, cell_run h hl hrun, hr, by simp⟩
    · cases hx

theorem resAllM_sound (h : Sim N tch w0 fr0 S a w fr β) : ∀ (rs : List ResultVar) (l : List (PV × Bool)), resAllM P S rs = some l →
    ∃ vs : List Value, (rs.mapM (resF a)).run P w = .ok vs w ∧ vs.length = l.length ∧ ∀ (k : Nat) (v : Value) (x : PV × Bool), vs[k]? = some v → l[k]? = some x →
      PRep w fr β S.gen v x.1 ∧ (x.2 = true → ∃ t, rs[k]? = some (.tmp t) ∧ S.own (.t t 0) = true ∧ vat a w β (.t t 0) = v ∧ S.at (.t t 0) = x.1)
  | [], l, hl => by
    simp [resAllM] at hl
    subst hl
    exact ⟨[], by simp, rfl, by simp⟩
  | r :: rs, l, hl => by
    simp only [resAllM, Option.bind_eq_some_iff, Option.map_eq_some_iff] at hl
    obtain ⟨x, hx, l', hl', rfl⟩ := hl
    obtain ⟨v, hv, hr, ho⟩ := resM_sound (P := P) h hx
    obtain ⟨vs, hvs, hlen, hall⟩ := resAllM_sound h rs l' hl'
    refine ⟨v :: vs, by simp [List.mapM_cons, hv, hvs], by simp [hlen], fun k u y hu hy => ?_⟩
    cases k with
    | zero =>
      cases hu
      cases hy
      refine ⟨hr, fun h2 => ?_⟩
      obtain ⟨t, e, rest⟩ := ho h2
      exact ⟨t, by rw [e]; rfl, rest⟩
    | succ k =>
      obtain ⟨h1, h2⟩ := hall k u y (by simpa using hu) (by simpa using hy)
      exact ⟨h1, fun h3 => by simpa using h2 h3⟩

def packV : List Value → Value
  | [v] => v
  | vs => .tuple vs.toArray

theorem results_run {fn : Func} {vs : List Value} (hvs : (fn.results.toList.mapM (resF a)).run P w = .ok vs w) :
    (results fn a.tmps).run P w = .ok (packV vs) w := by
  have hm : (fn.results.mapM (resF a)).run P w = .ok vs.toArray w := by
    rw [Array.mapM_eq_mapM_toList]
    simp [hvs]
  have hr : results fn a.tmps = (do
      let vs ← fn.results.mapM (resF a)
      pure (if h : vs.size = 1 then vs[0] else .tuple vs) : Sem Value) := rfl
  rw [hr, Sem.run_bind, hm]
  simp only [Result.andThen_ok, Sem.run_pure]
  cases vs with
  | nil => rfl
  | cons v vs =>
    cases vs with
    | nil => rfl
    | cons u vs => simp [packV]

theorem tmps_at : ∀ (rs : List ResultVar), (tmpsOf rs).Nodup → ∀ (j j' t : Nat), rs[j]? = some (ResultVar.tmp t) → rs[j']? = some (ResultVar.tmp t) → j = j'
  | [], _, j, j', t, h, _ => by simp at h
  | r :: rs, hn, j, j', t, h, h' => by
    have hmem : ∀ (rs : List ResultVar) (k t : Nat), rs[k]? = some (ResultVar.tmp t) → t ∈ tmpsOf rs := by
      intro rs
      induction rs with
      | nil => intro k t h; simp at h
      | cons r rs ih =>
        intro k t h
        cases k with
        | zero => simp at h; subst h; simp [tmpsOf]
        | succ k =>
          have := ih k t (by simpa using h)
          cases r <;> simp [tmpsOf, this]
    have hn' : (tmpsOf rs).Nodup := by
      cases r with
      | tmp t => simp [tmpsOf] at hn; exact hn.2
      | cell _ _ => exact hn
    cases j with
    | zero =>
      cases j' with
      | zero => rfl
      | succ j' =>
        simp at h
        subst h
        have := hmem rs j' t (by simpa using h')
        simp [tmpsOf] at hn
        exact absurd this hn.1
    | succ j =>
      cases j' with
      | zero =>
        simp at h'
        subst h'
        have := hmem rs j t (by simpa using h)
        simp [tmpsOf] at hn
        exact absurd this hn.1
      | succ j' =>
        rw [tmps_at rs hn' j j' t (by simpa using h) (by simpa using h')]


theorem resPV_free {rv : ResultVar} {x : PV × Bool} (hx : resPV P S rv = some x) : (match x.1 with | .d _ => true | .cptr _ => true | .fn _ [] => true | _ => false) = true := by
  cases rv with
  | tmp t =>
    simp only [resPV] at hx
    split at hx <;> first | (cases hx; rfl) | (simp only [Option.map_eq_some_iff] at hx; obtain ⟨_, _, rfl⟩ := hx; rfl) | (cases hx)
  | cell c t =>
    simp only [resPV, Option.bind_eq_some_iff, Option.map_eq_some_iff] at hx
    obtain ⟨_, _, _, _, rfl⟩ := hx
    rfl

/-- The values together. -/
theorem pack_rep {fr : Nat → Option Nat} {gen : Nat → Nat} {vs : List Value} {l : List (PV × Bool)} (hlen : vs.length = l.length)
    (hall : ∀ (k : Nat) (v : Value) (x : PV × Bool), vs[k]? = some v → l[k]? = some x → PRep w fr β gen v x.1) : PRep w fr β gen (packV vs) (pack l) := by
  cases vs with
  | nil =>
    have : l = [] := List.eq_nil_of_length_eq_zero hlen.symm
    subst this
    exact .tup [] [] rfl (by simp)
  | cons v1 vs1 =>
    cases l with
    | nil => simp at hlen
    | cons x1 l1 =>
      cases vs1 with
      | nil =>
        have : l1 = [] := List.eq_nil_of_length_eq_zero (by simpa using hlen.symm)
        subst this
        exact hall 0 v1 x1 rfl rfl
      | cons v2 vs2 =>
        cases l1 with
        | nil => simp at hlen
        | cons x2 l2 =>
          refine .tup (v1 :: v2 :: vs2) _ (by simpa using hlen) fun k v p hv hp => ?_
          rw [List.getElem?_map] at hp
          cases hx : (x1 :: x2 :: l2)[k]? with
          | none => rw [hx] at hp; cases hp
          | some x =>
            rw [hx] at hp
            cases hp
            exact hall k v x hv hx

/-- A part that is one's own. -/
theorem pack_part {T : Nat → Prop} {w1 : World} {fr : Nat → Option Nat} {vs : List Value} {l : List (PV × Bool)} (hlen : vs.length = l.length) {j : Nat} (h2 : (l.getD j (.any, false)).2 = true)
    (hall : ∀ (v : Value) (x : PV × Bool), vs[j]? = some v → l[j]? = some x → x.2 = true → OwnOk T w1 w fr v x.1) :
    ∃ x v, l[j]? = some x ∧ vs[j]? = some v ∧ x.2 = true ∧ vpart (packV vs) j = v ∧ (pack l).part j = x.1 := by
  rw [List.getD_eq_getElem?_getD] at h2
  cases hx : l[j]? with
  | none => rw [hx] at h2; cases h2
  | some x =>
    rw [hx] at h2
    have hjl : j < vs.length := by
      rw [hlen]
      exact (List.getElem?_eq_some_iff.1 hx).1
    have hown := hall _ x (List.getElem?_eq_getElem hjl) hx h2
    obtain ⟨xs, e, hh⟩ := hown
    have hnt : ∃ A n c, vs[j] = .slice A n c := by
      rcases hh with ⟨A, n, e'⟩ | ⟨b, c, cur, E, sz, e', _⟩
      · exact ⟨A, n, n, e'⟩
      · exact ⟨_, _, _, e'⟩
    obtain ⟨A, n, c, ev⟩ := hnt
    refine ⟨x, vs[j], rfl, List.getElem?_eq_getElem hjl, h2, ?_, ?_⟩
    · cases vs with
      | nil => simp at hjl
      | cons v1 vs1 =>
        cases vs1 with
        | nil =>
          have : j = 0 := by simp at hjl; exact hjl
          subst this
          simp only [List.getElem_cons_zero] at ev ⊢
          simp only [packV]
          rw [ev]
          rfl
        | cons v2 vs2 =>
          simp only [vpart, packV]
          rw [Array.getD_eq_getD_getElem?, List.getElem?_toArray, List.getElem?_eq_getElem hjl]
          rfl
    · cases l with
      | nil => simp at hx
      | cons x1 l1 =>
        cases l1 with
        | nil =>
          have : j = 0 := by
            have := (List.getElem?_eq_some_iff.1 hx).1
            simpa using this
          subst this
          simp at hx
          subst hx
          simp only [pack]
          rw [e]
          rfl
        | cons x2 l2 =>
          simp only [pack, PV.part]
          rw [List.getD_eq_getElem?_getD, List.getElem?_map, hx]
          rfl

theorem srcs_at : ∀ (rs : List ResultVar) (_ : (srcsOf S rs).Nodup) (j j' t t' n : Nat), rs[j]? = some (ResultVar.tmp t) → rs[j']? = some (ResultVar.tmp t') → (∃ g len sz ag, S.t t = .bsl n g len sz ag) → (∃ g len sz ag, S.t t' = .bsl n g len sz ag) → j = j'
  | [], _, j, j', t, t', n, h, _, _, _ => by simp at h
  | r :: rs, hn, j, j', t, t', n, h, h', hs, hs' => by
    have hmem : ∀ (rs : List ResultVar) (k t : Nat), rs[k]? = some (ResultVar.tmp t) → (∃ g len sz ag, S.t t = .bsl n g len sz ag) → n ∈ srcsOf S rs := by
      intro rs
      induction rs with
      | nil => intro k t h; simp at h
      | cons r rs ih =>
        intro k t h hs
        cases k with
        | zero =>
          simp at h
          subst h
          obtain ⟨g, len, sz, ag, e⟩ := hs
          simp [srcsOf, e]
        | succ k =>
          have := ih k t (by simpa using h) hs
          cases r with
          | tmp t2 =>
            simp only [srcsOf]
            split <;> simp [this]
          | cell _ _ => exact this
    have hn' : (srcsOf S rs).Nodup := by
      cases r with
      | tmp t2 =>
        simp only [srcsOf] at hn
        split at hn
        · exact (List.nodup_cons.1 hn).2
        · exact hn
      | cell _ _ => exact hn
    cases j with
    | zero =>
      cases j' with
      | zero => rfl
      | succ j' =>
        simp at h
        subst h
        have := hmem rs j' t' (by simpa using h') hs'
        obtain ⟨g, len, sz, ag, e⟩ := hs
        simp only [srcsOf, e] at hn
        exact absurd this (List.nodup_cons.1 hn).1
    | succ j =>
      cases j' with
      | zero =>
        simp at h'
        subst h'
        have := hmem rs j t (by simpa using h) hs
        obtain ⟨g, len, sz, ag, e⟩ := hs'
        simp only [srcsOf, e] at hn
        exact absurd this (List.nodup_cons.1 hn).1
      | succ j' =>
        rw [srcs_at rs hn' j j' t t' n (by simpa using h) (by simpa using h') hs hs']

theorem getD_pad {vs : Array Value} {n : Nat} (i : Nat) : ((vs ++ Array.replicate n undef)[i]?).getD undef = (vs[i]?).getD undef := by
  by_cases hi : i < vs.size
  · rw [Array.getElem?_append_left hi]
  · rw [Array.getElem?_append_right (by omega), Array.getElem?_replicate, Array.getElem?_eq_none (by omega : vs.size ≤ i)]
    split <;> rfl

/-- A function, by the weakest precondition of its body. -/
theorem Holds.of (hm : P.follows .mixedOrders = true) {f : FuncId} {fn : Func} {c : Code} (hf : P.funcs[f]? = some fn) (hname : (fn.name == "runtime.NumGoroutine") = false) (hb : fn.body = some c) (tr : List Nat) {args : List PV}
    (hargs : args.length ≤ fn.ntmps) (hok : codeOk fn.ntmps tr c = true) (hres : resOk fn.results.toList = true) {r : PV} {ro : Nat → Bool} (hfree : ptrFree r = true)
    (h : pwp P fn.ntmps tr c (retQ P fn.results.toList r ro) (PS.start args)) : Holds P f args r ro := by
  refine ⟨⟨fn, c, hf, hname, hb⟩, hfree, fun vs w fr hvs hfrb hrep => ?_⟩
  refine calls_of_wp hf hb ?_
  have hS : Sim fn.ntmps Env.free w fr (PS.start args) ⟨vs ++ Array.replicate (fn.ntmps - vs.size) undef, []⟩ w fr (fun _ => ⟨0, 0⟩) := by
    refine ⟨rfl, by simp; omega, rfl, rfl, rfl, Nat.le_refl _, hfrb, fun _ _ _ => ⟨rfl, rfl⟩, fun _ h => h.elim, fun i => ?_, fun n hn => by simp [PS.start] at hn, fun n m hn => by simp [PS.start] at hn, fun l hl => by simp [PS.start] at hl, fun n k hl => by simp [PS.start] at hl, fun l l' hl => by simp [PS.start] at hl, GExt.refl _ _⟩
    simp only [PS.start, Array.getD_eq_getD_getElem?, List.getD_eq_getElem?_getD, getD_pad]
    by_cases hi : i < vs.size
    · rw [Array.getElem?_eq_getElem hi, List.getElem?_eq_getElem (by omega)]
      exact hrep i _ _ (Array.getElem?_eq_getElem hi) (List.getElem?_eq_getElem (by omega))
    · rw [Array.getElem?_eq_none (by omega), List.getElem?_eq_none (by omega)]
      exact opq_undef
  refine wp_mono (pwp_sound (tch := Env.free) (w0 := w) (fr0 := fr) hm c hok _ _ h _ w fr _ hS) fun e a' w' hq => ?_
  obtain ⟨S', fr', β', hq, hS'⟩ := hq
  have key : (∃ l, resAll P S' fn.results.toList = some l ∧ r = pack l ∧ (srcsOf S' fn.results.toList).Nodup ∧ ∀ j, ro j = true → (l.getD j (.any, false)).2 = true) →
      a'.defers = [] ∧ ∃ v, (results fn a'.tmps).run P w' = .ok v w' ∧ ∃ v' fr' S' β', Ending.returned v = .returned v' ∧ Sim 1 Env.free w fr S' (res v') w' fr' β' ∧ S'.t 0 = r ∧ ∀ j, ro j = true → S'.own (.t 0 j) = true := by
    rintro ⟨l, hl, hr, hsn, hro⟩
    refine ⟨hS'.defers, ?_⟩
    obtain ⟨vs', hvs', hlen, hall⟩ := resAll_sound (P := P) hS' _ l hl
    refine ⟨_, results_run hvs', _, letGo w S' β' fr', ⟨fun i => if i = 0 then r else .undef, fun _ => [], fun _ => 0, fun l => match l with | .t 0 j => ro j | _ => false, FO⟩, fun _ => ⟨0, 0⟩, rfl, ?_, rfl, fun j hj => hj⟩
    have hV0 : PRep w' (letGo w S' β' fr') (fun _ => ⟨0, 0⟩) (fun _ => 0) (packV vs') r := by
      rw [hr]
      exact pack_rep hlen fun k v x hv hx => (hall k v x hv hx).1
    obtain ⟨V, hV⟩ : ∃ V, V = packV vs' := ⟨_, rfl⟩
    rw [← hV] at hV0 ⊢
    have hpart : ∀ j, ro j = true → ∃ x v, l[j]? = some x ∧ vs'[j]? = some v ∧ x.2 = true ∧ vpart V j = v ∧ r.part j = x.1 := by
      intro j hj
      rw [hV, hr]
      exact pack_part hlen (hro j hj) fun v x hv hx h2 => ((hall j v x hv hx).2 h2).1
    have hvl : ∀ i j, vat (res V) w' (fun _ => ⟨0, 0⟩) (.t i j) = if i = 0 then vpart V j else vpart undef j := by
      intro i j
      simp only [vat, res, Array.getD_eq_getD_getElem?]
      by_cases hi : i = 0
      · subst hi; rfl
      · rw [if_neg hi]
        have : (#[V] : Array Value)[i]? = none := by simp; omega
        rw [this]
        rfl
    refine ⟨rfl, rfl, hS'.os, hS'.tape, hS'.output, hS'.size, fun b f hf => ?_, fun b hb _ => ?_, fun _ h => h.elim, fun i => ?_, fun n hn => by simp at hn, fun n m hn => by simp at hn, fun lo hlo => ?_, fun n k hlo => by simp at hlo, fun lo lo' hlo hlo' hne b hb => ?_, GExt.refl _ _⟩
    · unfold letGo at hf
      split at hf
      · exact hS'.frb b f hf
      · split at hf
        · rename_i h0
          exact hS'.frb b _ h0
        · exact hS'.frb b f hf
    · have := hS'.frame b hb (by simp [Env.free])
      refine ⟨this.1, ?_⟩
      unfold letGo
      rw [if_pos hb]
      exact this.2
    · simp only [res, Array.getD_eq_getD_getElem?]
      by_cases hi : i = 0
      · subst hi
        rw [if_pos rfl]
        exact hV0
      · rw [if_neg hi]
        have : (#[V] : Array Value)[i]? = none := by simp; omega
        rw [this]
        exact opq_undef
    · cases lo with
      | b n k => simp at hlo
      | t i j =>
        cases i with
        | succ i => simp at hlo
        | zero =>
          simp only at hlo
          obtain ⟨x, v, hx, hv, h2, e1, e2⟩ := hpart j hlo
          rw [hvl, if_pos rfl, e1]
          have : PS.at ⟨fun i => if i = 0 then r else .undef, fun _ => [], fun _ => 0, fun l => match l with | .t 0 j => ro j | _ => false, FO⟩ (.t 0 j) = r.part j := by simp [PS.at]
          rw [this, e2]
          exact ((hall j v x hv hx).2 h2).1
    · cases lo with
      | b n k => simp at hlo
      | t i j =>
        cases lo' with
        | b n k => simp at hlo'
        | t i' j' =>
          cases i with
          | succ i => simp at hlo
          | zero =>
            cases i' with
            | succ i' => simp at hlo'
            | zero =>
              simp only at hlo hlo'
              obtain ⟨x, v, hx, hv, h2, e1, e2⟩ := hpart j hlo
              obtain ⟨x', v', hx', hv', h2', e1', e2'⟩ := hpart j' hlo'
              rw [hvl, if_pos rfl, e1] at hb
              rw [hvl, if_pos rfl, e1']
              intro hb'
              have hrow0 : ∀ t, S'.own (.t t 0) = true → rowOf (vat a' w' β' (.t t 0)) = some b → ∀ n, 0 < S'.gen n → 0 < (β' n).c → b ≠ (β' n).b := by
                intro t ho hrb n hn hc e
                obtain ⟨⟨f, hf, hf0⟩, _⟩ := (hS'.own _ ho).rowFr hrb
                rw [e, (hS'.boxes n hn).reg hc] at hf
                cases hf
                omega
              rcases ((hall j v x hv hx).2 h2).2 b hb with ⟨t, ht, ho, ev⟩ | ⟨t, n, g, len, sz, ag, ht, hs, hgn, hcn, eb⟩
              · rcases ((hall j' v' x' hv' hx').2 h2').2 b hb' with ⟨t', ht', ho', ev'⟩ | ⟨t', n', g', len', sz', ag', ht', hs', hgn', hcn', eb'⟩
                · by_cases htt : t = t'
                  · subst htt
                    have hnd : (tmpsOf fn.results.toList).Nodup := by simpa [resOk] using hres
                    have := tmps_at _ hnd j j' t ht ht'
                    subst this
                    exact hne rfl
                  · refine hS'.oinj (.t t 0) (.t t' 0) ho ho' (fun e => htt (by cases e; rfl)) b (by rw [ev]; exact hb) (by rw [ev']; exact hb')
                · exact hrow0 t ho (by rw [ev]; exact hb) n' hgn' hcn' eb'
              · rcases ((hall j' v' x' hv' hx').2 h2').2 b hb' with ⟨t', ht', ho', ev'⟩ | ⟨t', n', g', len', sz', ag', ht', hs', hgn', hcn', eb'⟩
                · exact hrow0 t' ho' (by rw [ev']; exact hb') n hgn hcn eb
                · have hnn : n = n' := hS'.binj n n' hgn hgn' hcn hcn' (by rw [← eb, eb'])
                  subst hnn
                  have := srcs_at _ hsn j j' t t' n ht ht' ⟨_, _, _, _, hs⟩ ⟨_, _, _, _, hs'⟩
                  subst this
                  exact hne rfl
  cases e with
  | normal => exact key hq
  | ret => exact key hq
  | _ => exact hq.elim

/-- A function that is handed boxes, by the weakest precondition of its body. -/
theorem Meets.of (hm : P.follows .mixedOrders = true) {f : FuncId} {fn : Func} {c : Code} (hf : P.funcs[f]? = some fn) (hname : (fn.name == "runtime.NumGoroutine") = false) (hb : fn.body = some c) (tr : List Nat) {fo : Nat} {gl : Nat → Nat} {args : List PV} {pre post : List Upd}
    (hargs : args.length ≤ fn.ntmps) (hok : codeOk fn.ntmps tr c = true) (hres : resOk fn.results.toList = true) {r : PV} {ro : Nat → Bool}
    (hnr : namesIn (post.map (·.n)) r = true) (hpn : ∀ u ∈ post, namesL (post.map (·.n)) u.c = true ∧ 0 < u.g) (hpre : ∀ u ∈ pre, u.n ∈ post.map (·.n))
    (h : pwp P fn.ntmps tr c (retM P fn.results.toList r ro post) (PS.startB fo gl args pre)) : Meets P fo gl f args pre r ro post := by
  refine ⟨⟨fn, c, hf, hname, hb⟩, hnr, hpn, hpre, fun vs w fr T β hvs h0 => ?_⟩
  refine calls_of_wp hf hb ?_
  have hpad : ∀ i, (vs ++ Array.replicate (fn.ntmps - vs.size) undef).getD i undef = vs.getD i undef := by
    intro i
    simp only [Array.getD_eq_getD_getElem?, getD_pad]
  have hvt : ∀ l, vat ⟨vs ++ Array.replicate (fn.ntmps - vs.size) undef, []⟩ w β l = vat ⟨vs, []⟩ w β l := by
    intro l
    cases l with
    | t i j => simp only [vat, hpad]
    | b n k => rfl
  have hS : Sim fn.ntmps T w fr (PS.startB fo gl args pre) ⟨vs ++ Array.replicate (fn.ntmps - vs.size) undef, []⟩ w fr β := by
    refine ⟨rfl, by simp; omega, rfl, rfl, rfl, Nat.le_refl _, h0.frb, h0.frame, h0.keep, fun i => ?_, h0.boxes, h0.binj, fun l hl => ?_, h0.live, fun l l' hl hl' hne b hbr => ?_, h0.ext⟩
    · rw [hpad]
      exact h0.vals i
    · rw [hvt]
      exact h0.own l hl
    · rw [hvt] at hbr
      rw [hvt]
      exact h0.oinj l l' hl hl' hne b hbr
  refine wp_mono (pwp_sound (tch := T) (w0 := w) (fr0 := fr) hm c hok _ _ h _ w fr _ hS) fun e a' w' hq => ?_
  obtain ⟨S', fr', β', hq, hS'⟩ := hq
  have key : ((∃ l, resAllM P S' fn.results.toList = some l ∧ r = pack l ∧ ∀ j, ro j = true → (l.getD j (.any, false)).2 = true) ∧ ∀ u ∈ post, S'.gen u.n = u.g ∧ S'.box u.n = u.c ∧ ∀ k, u.o k = true → S'.own (.b u.n k) = true) →
      a'.defers = [] ∧ ∃ v, (results fn a'.tmps).run P w' = .ok v w' ∧ ∃ v' fr' S' β', Ending.returned v = .returned v' ∧ Sim 1 T w fr S' (res v') w' fr' β' ∧ S'.t 0 = r ∧ (∀ j, ro j = true → S'.own (.t 0 j) = true) ∧
        ∀ u ∈ post, S'.gen u.n = u.g ∧ S'.box u.n = u.c ∧ ∀ k, u.o k = true → S'.own (.b u.n k) = true := by
    rintro ⟨⟨l, hl, hr, hro⟩, hpost⟩
    refine ⟨hS'.defers, ?_⟩
    obtain ⟨vs', hvs', hlen, hall⟩ := resAllM_sound (P := P) hS' _ l hl
    refine ⟨_, results_run hvs', _, fr', ⟨fun i => if i = 0 then r else .undef, S'.box, S'.gen, fun l => match l with | .t 0 j => ro j | .t _ _ => false | .b n k => S'.own (.b n k), S'.fo⟩, β', rfl, ?_, rfl, fun j hj => hj, hpost⟩
    have hV0 : PRep w' fr' β' S'.gen (packV vs') r := by
      rw [hr]
      exact pack_rep hlen fun k v x hv hx => (hall k v x hv hx).1
    obtain ⟨V, hV⟩ : ∃ V, V = packV vs' := ⟨_, rfl⟩
    rw [← hV] at hV0 ⊢
    have hpart : ∀ j, ro j = true → ∃ x t, l[j]? = some x ∧ fn.results.toList[j]? = some (.tmp t) ∧ S'.own (.t t 0) = true ∧ vpart V j = vat a' w' β' (.t t 0) ∧ r.part j = S'.at (.t t 0) := by
      intro j hj
      obtain ⟨x, v, hx, hv, h2, e1, e2⟩ := pack_part (T := T.tch) (w1 := w) (w := w') (fr := fr') hlen (hro j hj) fun v x hv hx h2 => by
        obtain ⟨t, ht, ho, ev, ex⟩ := (hall j v x hv hx).2 h2
        rw [← ev, ← ex]
        exact hS'.own _ ho
      obtain ⟨t, ht, ho, ev, ex⟩ := (hall j v x hv hx).2 h2
      exact ⟨x, t, hx, ht, ho, by rw [hV, e1, ev], by rw [hr, e2, ex]⟩
    have hvl : ∀ i j, vat (res V) w' β' (.t i j) = if i = 0 then vpart V j else vpart undef j := by
      intro i j
      simp only [vat, res, Array.getD_eq_getD_getElem?]
      by_cases hi : i = 0
      · subst hi; rfl
      · rw [if_neg hi]
        have : (#[V] : Array Value)[i]? = none := by simp; omega
        rw [this]
        rfl
    have hcase : ∀ lo, (match lo with | Loc.t 0 j => ro j | .t _ _ => false | .b n k => S'.own (.b n k)) = true →
        ∃ l', S'.own l' = true ∧ vat (res V) w' β' lo = vat a' w' β' l' ∧ (PS.at ⟨fun i => if i = 0 then r else .undef, S'.box, S'.gen, fun l => match l with | .t 0 j => ro j | .t _ _ => false | .b n k => S'.own (.b n k), S'.fo⟩ lo) = S'.at l' ∧
          ((∃ n k, lo = .b n k ∧ l' = .b n k) ∨ ∃ j t, lo = .t 0 j ∧ l' = .t t 0 ∧ fn.results.toList[j]? = some (.tmp t)) := by
      intro lo hlo
      cases lo with
      | b n k => exact ⟨.b n k, hlo, rfl, rfl, .inl ⟨n, k, rfl, rfl⟩⟩
      | t i j =>
        cases i with
        | succ i => simp at hlo
        | zero =>
          simp only at hlo
          obtain ⟨x, t, hx, ht, ho, e1, e2⟩ := hpart j hlo
          exact ⟨.t t 0, ho, by rw [hvl, if_pos rfl, e1], by rw [← e2]; simp [PS.at], .inr ⟨j, t, rfl, rfl, ht⟩⟩
    refine ⟨rfl, rfl, hS'.os, hS'.tape, hS'.output, hS'.size, hS'.frb, hS'.frame, hS'.keep, fun i => ?_, hS'.boxes, hS'.binj, fun lo hlo => ?_, fun n k hlo => hS'.live n k hlo, fun lo lo' hlo hlo' hne b hbr => ?_, hS'.ext⟩
    · simp only [res, Array.getD_eq_getD_getElem?]
      by_cases hi : i = 0
      · subst hi
        rw [if_pos rfl]
        exact hV0
      · rw [if_neg hi]
        have : (#[V] : Array Value)[i]? = none := by simp; omega
        rw [this]
        exact opq_undef
    · obtain ⟨l', ho, e1, e2, _⟩ := hcase lo hlo
      rw [e1, e2]
      exact hS'.own l' ho
    · obtain ⟨l1, ho, e1, e2, hc1⟩ := hcase lo hlo
      obtain ⟨l2, ho', e1', e2', hc2⟩ := hcase lo' hlo'
      rw [e1] at hbr
      rw [e1']
      refine hS'.oinj l1 l2 ho ho' (fun e => ?_) b hbr
      subst e
      rcases hc1 with ⟨n, k, rfl, rfl⟩ | ⟨j, t, rfl, rfl, ht⟩
      · rcases hc2 with ⟨n', k', rfl, e⟩ | ⟨j', t', rfl, e, ht'⟩
        · cases e; exact hne rfl
        · cases e
      · rcases hc2 with ⟨n', k', rfl, e⟩ | ⟨j', t', rfl, e, ht'⟩
        · cases e
        · cases e
          have hnd : (tmpsOf fn.results.toList).Nodup := by simpa [resOk] using hres
          have := tmps_at _ hnd j j' t ht ht'
          subst this
          exact hne rfl
  cases e with
  | normal => exact key hq
  | ret => exact key hq
  | _ => exact hq.elim
end

end BoEng
