/- The rules of reckoning, third part: states in a first-order form. -/
import Derived.Test.YtoamihggbaaohaaEngY
namespace BoEng
open Go Go.RowKit

section
variable {P : Program} {tr : List Nat} {S : PS} {K : PS → Prop} {Q : PS → Prop} {l : List CO}

theorem nth_nat {α : Type} [Inhabited α] {l : List α} {i : Nat} (h : i < l.length) : nth l (i : Int) = l[i] := by
  simp [nth, List.getD_eq_getElem?_getD, List.getElem?_eq_getElem h]
@[simp] theorem isNilV_int {k : IntKind} {n : Int} : isNilV (.int k n) = false := rfl
@[simp] theorem isNilV_bool {b : Bool} : isNilV (.bool b) = false := rfl
@[simp] theorem isNilV_str {b : ByteArray} : isNilV (.string b) = false := rfl
@[simp] theorem isNilV_nil : isNilV (.slice none 0 0) = true := rfl

@[simp] theorem ptrFree_d {x : DV} : ptrFree (.d x) = true := rfl
@[simp] theorem ptrFree_c {x : List DV} : ptrFree (.cptr x) = true := rfl
@[simp] theorem ptrFree_f {f : FuncId} {cs : List PV} : ptrFree (.fn f cs) = cs.all flatP := rfl
@[simp] theorem flatP_d {x : DV} : flatP (.d x) = true := rfl
@[simp] theorem flatP_c {x : List DV} : flatP (.cptr x) = true := rfl

/-! ### Structs compared -/
def eqV2 (k : Nat) (x y : Option DV) : Option Bool :=
  match k, x, y with
  | 0, some (.int k a), some (.int k' b) => if k = k' then some (decide (a = b)) else none
  | 1, some (.bool a), some (.bool b) => some (a == b)
  | 2, some (.str a), some (.str b) => some (decide (a = b))
  | _, _, _ => none
@[simp] theorem eqV2_i {k : IntKind} {a b : Int} : eqV2 0 (some (.int k a)) (some (.int k b)) = some (decide (a = b)) := by simp [eqV2]
@[simp] theorem eqV2_b {a b : Bool} : eqV2 1 (some (.bool a)) (some (.bool b)) = some (a == b) := rfl
@[simp] theorem eqV2_s {a b : List UInt8} : eqV2 2 (some (.str a)) (some (.str b)) = some (decide (a = b)) := rfl
def eqL : List (Nat × Nat) → List DV → List DV → Option Bool
  | [], _, _ => some true
  | (o, k) :: r, xs, ys => (eqV2 k xs[o]? ys[o]?).bind fun b => (eqL r xs ys).map fun r => b && r
@[simp] theorem eqL_nil {xs ys : List DV} : eqL [] xs ys = some true := rfl
@[simp] theorem eqL_cons {o k : Nat} {r : List (Nat × Nat)} {xs ys : List DV} : eqL ((o, k) :: r) xs ys = (eqV2 k xs[o]? ys[o]?).bind fun b => (eqL r xs ys).map fun r => b && r := rfl
def kindN : Option TypeDesc → Option Nat
  | some (.int _) => some 0
  | some .bool => some 1
  | some .string => some 2
  | _ => none
def eqFs (P : Program) : List Field → Option (List (Nat × Nat))
  | [] => some []
  | f :: fs => if f.name = "_" then none else (kindN (P.underlying f.type)).bind fun k => (eqFs P fs).map ((f.offset, k) :: ·)
def eqS (P : Program) (t : TypeId) : Option (List (Nat × Nat)) :=
  match P.underlying t with
  | some (.struct fs) => if eqOk P t then eqFs P fs.toList else none
  | _ => none
theorem eqV_i {k : IntKind} {a b : Option DV} : eqV (some (.int k)) a b = eqV2 0 a b := by
  rcases a with _ | (_ | _ | _ | _ | _ | _) <;> rcases b with _ | (_ | _ | _ | _ | _ | _) <;> rfl
theorem eqV_b {a b : Option DV} : eqV (some .bool) a b = eqV2 1 a b := by
  rcases a with _ | (_ | _ | _ | _ | _ | _) <;> rcases b with _ | (_ | _ | _ | _ | _ | _) <;> rfl
theorem eqV_s {a b : Option DV} : eqV (some .string) a b = eqV2 2 a b := by
  rcases a with _ | (_ | _ | _ | _ | _ | _) <;> rcases b with _ | (_ | _ | _ | _ | _ | _) <;> rfl
theorem eqF_L : ∀ (fs : List Field) (ks : List (Nat × Nat)) (xs ys : List DV), eqFs P fs = some ks → eqF P xs ys fs = eqL ks xs ys
  | [], ks, xs, ys, h => by simp [eqFs] at h; subst h; rfl
  | f :: fs, ks, xs, ys, h => by
    simp only [eqFs] at h
    split at h
    · cases h
    · rename_i hn
      simp only [Option.bind_eq_some_iff, Option.map_eq_some_iff] at h
      obtain ⟨k, hk, r, hr, rfl⟩ := h
      simp only [eqF, if_neg hn, eqL, eqF_L fs r xs ys hr]
      congr 1
      unfold kindN at hk
      split at hk
      · rename_i hu; cases hk; rw [hu]; exact eqV_i
      · rename_i hu; cases hk; rw [hu]; exact eqV_b
      · rename_i hu; cases hk; rw [hu]; exact eqV_s
      · cases hk
theorem eqA_L {t : TypeId} {ks : List (Nat × Nat)} {xs ys : List DV} (h : eqS P t = some ks) : eqA P t xs ys = eqL ks xs ys := by
  unfold eqS at h
  unfold eqA
  split at h
  · rename_i fs hu
    split at h
    · rename_i ho
      rw [hu]
      simp only [if_pos ho]
      exact eqF_L fs.toList ks xs ys h
    · cases h
  · cases h
def eqSA (P : Program) (t : TypeId) (xs ys : List DV) (q : Option (List (Nat × Nat))) : Option Bool := match q with | some ks => eqL ks xs ys | none => eqA P t xs ys
@[simp] theorem eqSA_s {t : TypeId} {xs ys : List DV} {ks : List (Nat × Nat)} : eqSA P t xs ys (some ks) = eqL ks xs ys := rfl
theorem eqA_SA {t : TypeId} {xs ys : List DV} : eqA P t xs ys = eqSA P t xs ys (eqS P t) := by
  unfold eqSA
  cases h : eqS P t with
  | none => rfl
  | some ks => exact eqA_L h
def bool1 (b : Bool) : PV := .d (.bool b)
@[simp] theorem bool1_eq {b : Bool} : bool1 b = .d (.bool b) := rfl
def bool0 (b : Bool) : PV := .d (.bool (!b))
@[simp] theorem bool0_eq {b : Bool} : bool0 b = .d (.bool (!b)) := rfl
@[simp] theorem pbin_sq {t : TypeId} {a b : List DV} : pbin P .eql t (.d (.agg a)) (.d (.agg b)) = (eqSA P t a b (eqS P t)).map bool1 := by rw [← eqA_SA]; rfl
@[simp] theorem pbin_sn {t : TypeId} {a b : List DV} : pbin P .neq t (.d (.agg a)) (.d (.agg b)) = (eqSA P t a b (eqS P t)).map bool0 := by rw [← eqA_SA]; rfl

/-! ### Rounds -/
theorem least {p : Nat → Prop} : ∀ n, p n → ∃ m, p m ∧ ∀ k, p k → m ≤ k := by
  intro n
  induction n using Nat.strongRecOn with
  | ind n ih =>
    intro h
    by_cases hk : ∃ k, k < n ∧ p k
    · obtain ⟨k, hlt, hp⟩ := hk
      exact ih k hlt hp
    · exact ⟨n, h, fun k hp => Nat.le_of_not_lt fun hlt => hk ⟨k, hlt, hp⟩⟩
theorem rwc_mono {Q Q' : PS → Prop} (h : ∀ S, Q S → Q' S) : ∀ {l : List CO} {S : PS}, rwc P tr l Q S → rwc P tr l Q' S
  | [], S, hr => h S hr
  | c :: l, S, hr => by
    unfold rwc at hr ⊢
    cases hg : c.g with
    | none =>
      rw [hg] at hr
      exact owp_mono (fun S => rwc_mono h) hr
    | some q =>
      obtain ⟨j, w⟩ := q
      rw [hg] at hr
      simp only at hr ⊢
      split at hr
      · rename_i hc
        rw [if_pos hc]
        exact owp_mono (fun S => rwc_mono h) hr
      · rename_i hc
        rw [if_neg hc]
        exact rwc_mono h hr
theorem pwc_mono {c : CC} : ∀ {Q Q' : Exit → PS → Prop} {S : PS}, (∀ e S, Q e S → Q' e S) → pwc P tr c Q S → pwc P tr c Q' S := by
  induction c with
  | skip => intro Q Q' S h hc; exact h _ _ hc
  | reg l => intro Q Q' S h hc; exact rwc_mono (fun S => h _ S) hc
  | seq a b iha ihb =>
    intro Q Q' S h hc
    refine iha (fun e S' hS => ?_) hc
    cases e with
    | normal => exact ihb h hS
    | _ => exact h _ _ hS
  | cond c a b iha ihb =>
    intro Q Q' S h hc
    simp only [pwc] at hc ⊢
    split at hc
    · rename_i t ht
      split at hc
      · rename_i hh; rw [if_pos hh]; exact iha h hc
      · rename_i hh; rw [if_neg hh]; exact ihb h hc
    · exact hc.elim
  | block id c ih =>
    intro Q Q' S h hc
    refine ih (fun e S' hS => ?_) hc
    cases e with
    | exit j =>
      simp only [blkQ] at hS ⊢
      split at hS
      · rename_i hh; rw [if_pos hh]; exact h _ _ hS
      · rename_i hh; rw [if_neg hh]; exact h _ _ hS
    | _ => exact h _ _ hS
  | loop c ih =>
    intro Q Q' S h hc
    obtain ⟨I, μ, h0, hs⟩ := hc
    refine ⟨I, μ, h0, fun S1 h1 => ih (fun e S' hS => ?_) (hs S1 h1)⟩
    cases e with
    | normal => exact hS
    | _ => exact h _ _ hS
  | exit i => intro Q Q' S h hc; exact h _ _ hc
  | ret => intro Q Q' S h hc; exact h _ _ hc
  | bad => intro Q Q' S h hc; exact hc
theorem opt_if {α : Type} {c : Prop} [Decidable c] {x : α} (h : c) : (if c then some x else none) = some x := if_pos h
theorem dec_t {c : Prop} [Decidable c] (h : c) : decide c = true := decide_eq_true h
theorem dec_f {c : Prop} [Decidable c] (h : ¬ c) : decide c = false := decide_eq_false h
/-- One round more. -/
def nxt {α : Type} (I : α → PS → Prop) (μ : α → Nat) (a : α) (S : PS) : Prop := ∃ a', I a' S ∧ μ a' < μ a
theorem nxt_of {α : Type} {I : α → PS → Prop} {μ : α → Nat} {a : α} {S : PS} (a' : α) (h : I a' S) (hm : μ a' < μ a) : nxt I μ a S := ⟨a', h, hm⟩
theorem lp {α : Type} {c : CC} {Q : Exit → PS → Prop} (I : α → PS → Prop) (μ : α → Nat) (a0 : α) (h0 : I a0 S)
    (hs : ∀ a S, I a S → pwc P tr c (seqQ P (nxt I μ a) Q) S) : pwc P tr (.loop c) Q S := by
  have hm : ∀ (k k' : PS → Prop), (∀ S, k S → k' S) → ∀ S, pwc P tr c (seqQ P k Q) S → pwc P tr c (seqQ P k' Q) S := by
    intro k k' hk S h
    refine pwc_mono (fun e S' hS => ?_) h
    cases e with
    | normal => exact hk _ hS
    | _ => exact hS
  have hmin : ∀ S, (∃ a, I a S) → ∃ m, (∃ a, I a S ∧ μ a = m) ∧ ∀ k, (∃ a, I a S ∧ μ a = k) → m ≤ k := fun S ⟨a, ha⟩ => least (p := fun m => ∃ a, I a S ∧ μ a = m) (μ a) ⟨a, ha, rfl⟩
  have dec : ∀ p : Prop, Decidable p := Classical.propDecidable
  let ν : PS → Nat := fun S => if h : ∃ a, I a S then Classical.choose (hmin S h) else 0
  have hν : ∀ S, (∃ a, I a S) → (∃ a, I a S ∧ μ a = ν S) ∧ ∀ a, I a S → ν S ≤ μ a := by
    intro S h
    have := Classical.choose_spec (hmin S h)
    simp only [ν, dif_pos h]
    exact ⟨this.1, fun a ha => this.2 _ ⟨a, ha, rfl⟩⟩
  refine ⟨fun S => ∃ a, I a S, ν, ⟨a0, h0⟩, fun S1 h1 => ?_⟩
  obtain ⟨⟨a, ha, hμ⟩, _⟩ := hν S1 h1
  refine hm _ _ (fun S' hS' => ?_) S1 (hs a S1 ha)
  obtain ⟨a', ha', hlt⟩ := hS'
  exact ⟨⟨a', ha'⟩, Nat.lt_of_le_of_lt ((hν S' ⟨a', ha'⟩).2 a' ha') (hμ ▸ hlt)⟩

/-! ### Ways that meet again -/
def joinQ (I : PS → Prop) (e : Exit) (S : PS) : Prop := e = .normal ∧ I S
@[simp] theorem joinQ_n {I : PS → Prop} : joinQ I .normal S = I S := by simp [joinQ]
theorem cnd_join {t : Bool} {a b : CC} {Q : Exit → PS → Prop} (I : PS → Prop) (h1 : t = true → pwc P tr a (joinQ I) S) (h2 : t = false → pwc P tr b (joinQ I) S) (h : ∀ S', I S' → Q .normal S') : Cnd P tr (.d (.bool t)) a b Q S :=
  cnd_by (fun e => pwc_mono (fun _ S' ⟨he, hI⟩ => he ▸ h S' hI) (h1 e)) (fun e => pwc_mono (fun _ S' ⟨he, hI⟩ => he ▸ h S' hI) (h2 e))

/-! ### Slices that were boxes -/
@[simp] theorem toD_m {xs : List DV} : toD (xs.map PV.d) = some xs := by
  induction xs with
  | nil => rfl
  | cons x xs ih => simp [ih]
@[simp] theorem toD_mf {α : Type} {f : α → DV} {xs : List α} : toD (xs.map (PV.d ∘ f)) = some (xs.map f) := by
  rw [← List.map_map]
  exact toD_m
@[simp] theorem chunk_1 {n : Nat} {xs : List DV} (h : xs.length = n) : chunk 1 false n xs = xs := by
  subst h
  induction xs with
  | nil => rfl
  | cons x xs ih => simp [chunk, ih]

/-! ### What is handed back -/
def finQ (o : Option (List (PV × Bool))) (ns : List Nat) (r : PV) (ro : Nat → Bool) : Prop := ∃ l, o = some l ∧ r = pack l ∧ ns.Nodup ∧ ∀ j, ro j = true → (l.getD j (.any, false)).2 = true
@[simp] theorem finQ_some {l : List (PV × Bool)} {ns : List Nat} {r : PV} {ro : Nat → Bool} : finQ (some l) ns r ro = (r = pack l ∧ ns.Nodup ∧ ∀ j, ro j = true → (l.getD j (.any, false)).2 = true) := by
  simp [finQ]
@[simp] theorem retQ_ret {rs : List ResultVar} {r : PV} {ro : Nat → Bool} : retQ P rs r ro .ret S = finQ (resAll P S rs) (srcsOf S rs) r ro := rfl
@[simp] theorem retQ_n {rs : List ResultVar} {r : PV} {ro : Nat → Bool} : retQ P rs r ro .normal S = finQ (resAll P S rs) (srcsOf S rs) r ro := rfl
@[simp] theorem retQ_e {rs : List ResultVar} {r : PV} {ro : Nat → Bool} {i : Nat} : retQ P rs r ro (.exit i) S = False := rfl
@[simp] theorem resAll_nil : resAll P S [] = some [] := rfl
@[simp] theorem resAll_cons {x : ResultVar} {rs : List ResultVar} : resAll P S (x :: rs) = (resPV P S x).bind fun x => (resAll P S rs).map (x :: ·) := rfl
/-- What is told, all boxes let go. -/
def frzR (S : PS) (r : PV) : Option DV := (frzV S r).map fun x => x.1
@[simp] theorem frzR_d {x : DV} : frzR S (.d x) = some x := rfl
@[simp] theorem frzR_b {n g len sz : Nat} {ag : Bool} : frzR S (.bsl n g len sz ag) = (thawB (S.gen n) (S.box n) g len sz ag).map .slice := by
  simp only [frzR, frzV, frzC, thawed_B]
  cases thawB (S.gen n) (S.box n) g len sz ag <;> rfl
@[simp] theorem frzR_p {cs : List PV} : frzR S (.pa cs) = (frzL S cs).map fun x => .agg x.1 := by
  simp only [frzR, frzV]
  cases frzL S cs <;> rfl
@[simp] theorem resPV_cell {a t : Nat} : resPV P S (.cell a t) = (loadV P S.gen S.box t (S.t a)).bind fun r => (frzR S r).map fun x => (.d x, false) := by
  simp only [resPV, loadPV_eq, PS.ev, frzR]
  cases loadV P S.gen S.box t (S.t a) with
  | none => rfl
  | some r =>
    simp only [Option.bind_some]
    cases frzV S r <;> rfl
def resV (S : PS) (x : PV) (o : Bool) : Option (PV × Bool) :=
  match x with
  | .d x => some (.d x, o && isSl (.d x))
  | .cptr c => some (.cptr c, false)
  | .fn f [] => some (.fn f [], false)
  | .bsl n g len sz ag => (thawB (S.gen n) (S.box n) g len sz ag).map fun xs => (.d (.slice xs), decide (0 < len ∧ (S.box n).length = len * sz))
  | .pa cs => (frzL S cs).map fun x => (.d (.agg x.1), false)
  | _ => none
@[simp] theorem resV_d {x : DV} {o : Bool} : resV S (.d x) o = some (.d x, o && isSl (.d x)) := rfl
@[simp] theorem resV_c {x : List DV} {o : Bool} : resV S (.cptr x) o = some (.cptr x, false) := rfl
@[simp] theorem resV_f {f : FuncId} {o : Bool} : resV S (.fn f []) o = some (.fn f [], false) := rfl
@[simp] theorem resV_b {n g len sz : Nat} {ag : Bool} {o : Bool} : resV S (.bsl n g len sz ag) o = (thawB (S.gen n) (S.box n) g len sz ag).map fun xs => (.d (.slice xs), decide (0 < len ∧ (S.box n).length = len * sz)) := rfl
@[simp] theorem resV_p {cs : List PV} {o : Bool} : resV S (.pa cs) o = (frzL S cs).map fun x => (.d (.agg x.1), false) := rfl
@[simp] theorem resPV_tmp {t : Nat} : resPV P S (.tmp t) = resV S (S.t t) (S.own (.t t 0)) := by
  simp only [resPV, resV]
  cases S.t t with
  | fn f c => cases c <;> rfl
  | _ => rfl
def srcB (x : PV) (l : List Nat) : List Nat := match x with | .bsl n _ _ _ _ => n :: l | _ => l
@[simp] theorem srcB_d {x : DV} {l : List Nat} : srcB (.d x) l = l := rfl
@[simp] theorem srcB_c {x : List DV} {l : List Nat} : srcB (.cptr x) l = l := rfl
@[simp] theorem srcB_f {f : FuncId} {c : List PV} {l : List Nat} : srcB (.fn f c) l = l := rfl
@[simp] theorem srcB_p {c : List PV} {l : List Nat} : srcB (.pa c) l = l := rfl
@[simp] theorem srcB_b {n g len sz : Nat} {ag : Bool} {l : List Nat} : srcB (.bsl n g len sz ag) l = n :: l := rfl
@[simp] theorem srcsOf_nil : srcsOf S [] = [] := rfl
@[simp] theorem srcsOf_tmp {t : Nat} {l : List ResultVar} : srcsOf S (.tmp t :: l) = srcB (S.t t) (srcsOf S l) := by
  simp only [srcsOf, srcB]
  cases S.t t <;> rfl
@[simp] theorem srcsOf_cell {a t : Nat} {l : List ResultVar} : srcsOf S (.cell a t :: l) = srcsOf S l := rfl
@[simp] theorem pack_1 {x : PV × Bool} : pack [x] = x.1 := rfl
@[simp] theorem pack_2 {x y : PV × Bool} {l : List (PV × Bool)} : pack (x :: y :: l) = .tup (x.1 :: y.1 :: l.map (·.1)) := rfl
@[simp] theorem pack_0 : pack [] = .tup [] := rfl
/-- The boxes as they are told. -/
def postOk (S : PS) (post : List Upd) : Prop := ∀ u ∈ post, S.gen u.n = u.g ∧ S.box u.n = u.c ∧ ∀ k, u.o k = true → S.own (.b u.n k) = true
@[simp] theorem postOk_nil : postOk S [] := by simp [postOk]
@[simp] theorem postOk_cons {u : Upd} {l : List Upd} : postOk S (u :: l) ↔ (S.gen u.n = u.g ∧ S.box u.n = u.c ∧ ∀ k, u.o k = true → S.own (.b u.n k) = true) ∧ postOk S l := by
  simp [postOk]
def finM (o : Option (List (PV × Bool))) (r : PV) (ro : Nat → Bool) : Prop := ∃ l, o = some l ∧ r = pack l ∧ ∀ j, ro j = true → (l.getD j (.any, false)).2 = true
@[simp] theorem finM_some {l : List (PV × Bool)} {r : PV} {ro : Nat → Bool} : finM (some l) r ro = (r = pack l ∧ ∀ j, ro j = true → (l.getD j (.any, false)).2 = true) := by
  simp [finM]
@[simp] theorem retM_ret {rs : List ResultVar} {r : PV} {ro : Nat → Bool} {post : List Upd} : retM P rs r ro post .ret S = (finM (resAllM P S rs) r ro ∧ postOk S post) := rfl
@[simp] theorem retM_n {rs : List ResultVar} {r : PV} {ro : Nat → Bool} {post : List Upd} : retM P rs r ro post .normal S = (finM (resAllM P S rs) r ro ∧ postOk S post) := rfl
@[simp] theorem retM_e {rs : List ResultVar} {r : PV} {ro : Nat → Bool} {post : List Upd} {i : Nat} : retM P rs r ro post (.exit i) S = False := rfl
@[simp] theorem resAllM_nil : resAllM P S [] = some [] := rfl
@[simp] theorem resAllM_cons {x : ResultVar} {rs : List ResultVar} : resAllM P S (x :: rs) = (resM P S x).bind fun x => (resAllM P S rs).map (x :: ·) := rfl
def resMV (p : PV) (o : Bool) : Option (PV × Bool) := match p with | .tup _ => none | p => some (p, o && isSl p)
@[simp] theorem resMV_d {x : DV} {o : Bool} : resMV (.d x) o = some (.d x, o && isSl (.d x)) := rfl
@[simp] theorem resMV_p {x : List PV} {o : Bool} : resMV (.pa x) o = some (.pa x, false) := by simp [resMV, isSl]
@[simp] theorem resMV_c {x : List DV} {o : Bool} : resMV (.cptr x) o = some (.cptr x, false) := by simp [resMV, isSl]
@[simp] theorem resMV_f {f : FuncId} {x : List PV} {o : Bool} : resMV (.fn f x) o = some (.fn f x, false) := by simp [resMV, isSl]
@[simp] theorem resMV_r {n g k : Nat} {o : Bool} : resMV (.ptr n g k) o = some (.ptr n g k, false) := by simp [resMV, isSl]
@[simp] theorem resMV_b {n g len sz : Nat} {ag o : Bool} : resMV (.bsl n g len sz ag) o = some (.bsl n g len sz ag, false) := by simp [resMV, isSl]
@[simp] theorem resM_tmp {t : Nat} : resM P S (.tmp t) = resMV (S.t t) (S.own (.t t 0)) := by
  simp only [resM, resMV]
  cases S.t t <;> rfl
@[simp] theorem resM_cell {a t : Nat} : resM P S (.cell a t) = (loadV P S.gen S.box t (S.t a)).bind fun p => resMV p false := by
  simp only [resM, loadPV_eq, PS.ev]
  cases loadV P S.gen S.box t (S.t a) with
  | none => rfl
  | some p => cases p <;> rfl
end
end BoEng
