/- The rules by which simp reckons a state. -/
import Derived.Test.YtkiccmpebcjhlaaEngT
namespace BoEng
open Go Go.RowKit

section
variable {P : Program} {tr : List Nat} {S : PS} {K : PS → Prop} {Q : PS → Prop} {l : List CO}

/-- A slot is set, what is one's own there told; what is taken out of slot 's' is its own no more. -/
def PS.putO (S : PS) (d : Nat) (v : PV) (ro : Nat → Bool) (clr : Loc → Bool) : PS := { S with t := upd S.t d v, own := fun l => match l with | .t i j => if i = d then ro j else S.own (.t i j) && !clr (.t i j) | l => S.own l && !clr l }
def PS.putB (S : PS) (d : Option Nat) (v : PV) (n g : Nat) (c : List PV) (ob : Nat → Bool) (clr : Loc → Bool) : PS where
  t := match d with | some d => upd S.t d v | none => S.t
  box := upd S.box n c
  gen := upd S.gen n g
  own := fun l => match l with
    | .t i j => if d = some i then false else S.own (.t i j) && !clr (.t i j)
    | .b m k => if m = n then ob k else S.own (.b m k) && !clr (.b m k)

@[simp] theorem set_t (d : Nat) (v : PV) (i : Nat) : (S.set d v).t i = if i = d then v else S.t i := rfl
@[simp] theorem set_box (d : Nat) (v : PV) : (S.set d v).box = S.box := rfl
@[simp] theorem set_gen (d : Nat) (v : PV) : (S.set d v).gen = S.gen := rfl
@[simp] theorem set_ownt (d : Nat) (v : PV) (i j : Nat) : (S.set d v).own (.t i j) = if i = d then false else S.own (.t i j) := rfl
@[simp] theorem set_ownb (d : Nat) (v : PV) (i j : Nat) : (S.set d v).own (.b i j) = S.own (.b i j) := rfl
@[simp] theorem putO_t (d : Nat) (v : PV) (ro : Nat → Bool) (clr : Loc → Bool) (i : Nat) : (S.putO d v ro clr).t i = if i = d then v else S.t i := rfl
@[simp] theorem putO_box (d : Nat) (v : PV) (ro : Nat → Bool) (clr : Loc → Bool) : (S.putO d v ro clr).box = S.box := rfl
@[simp] theorem putO_gen (d : Nat) (v : PV) (ro : Nat → Bool) (clr : Loc → Bool) : (S.putO d v ro clr).gen = S.gen := rfl
@[simp] theorem putO_ownt (d : Nat) (v : PV) (ro : Nat → Bool) (clr : Loc → Bool) (i j : Nat) : (S.putO d v ro clr).own (.t i j) = if i = d then ro j else S.own (.t i j) && !clr (.t i j) := rfl
@[simp] theorem putO_ownb (d : Nat) (v : PV) (ro : Nat → Bool) (clr : Loc → Bool) (i j : Nat) : (S.putO d v ro clr).own (.b i j) = (S.own (.b i j) && !clr (.b i j)) := rfl
@[simp] theorem putB_t (d : Option Nat) (v : PV) (n g : Nat) (c : List PV) (ob : Nat → Bool) (clr : Loc → Bool) (i : Nat) : (S.putB d v n g c ob clr).t i = if d = some i then v else S.t i := by
  cases d with
  | none => simp [PS.putB]
  | some d =>
    simp only [PS.putB, upd, Option.some.injEq]
    by_cases e : i = d
    · simp [e]
    · have e' : ¬ d = i := fun h => e h.symm
      simp [e, e']
@[simp] theorem putB_box (d : Option Nat) (v : PV) (n g : Nat) (c : List PV) (ob : Nat → Bool) (clr : Loc → Bool) (m : Nat) : (S.putB d v n g c ob clr).box m = if m = n then c else S.box m := rfl
@[simp] theorem putB_gen (d : Option Nat) (v : PV) (n g : Nat) (c : List PV) (ob : Nat → Bool) (clr : Loc → Bool) (m : Nat) : (S.putB d v n g c ob clr).gen m = if m = n then g else S.gen m := rfl
@[simp] theorem putB_ownt (d : Option Nat) (v : PV) (n g : Nat) (c : List PV) (ob : Nat → Bool) (clr : Loc → Bool) (i j : Nat) : (S.putB d v n g c ob clr).own (.t i j) = if d = some i then false else S.own (.t i j) && !clr (.t i j) := rfl
@[simp] theorem putB_ownb (d : Option Nat) (v : PV) (n g : Nat) (c : List PV) (ob : Nat → Bool) (clr : Loc → Bool) (m k : Nat) : (S.putB d v n g c ob clr).own (.b m k) = if m = n then ob k else S.own (.b m k) && !clr (.b m k) := rfl
@[simp] theorem slotOf_t (s i j : Nat) : slotOf s (.t i j) = (i == s) := rfl
@[simp] theorem slotOf_b (s i j : Nat) : slotOf s (.b i j) = false := rfl

theorem apply_set {d : Nat} {r : PV} : ((⟨some d, r, fun _ => false, fun _ => false, none⟩ : Eff).apply S) = S.set d r := by
  simp only [Eff.apply, PS.set]
  congr 1
  funext l
  cases l with
  | t i j =>
    simp only [Option.some.injEq, Bool.not_false, Bool.and_true]
    by_cases e : d = i
    · subst e; simp
    · have e' : ¬ i = d := fun h => e h.symm
      simp [e, e']
  | b n k => simp
theorem apply_putO {d : Nat} {r : PV} {ro : Nat → Bool} {clr : Loc → Bool} : ((⟨some d, r, ro, clr, none⟩ : Eff).apply S) = S.putO d r ro clr := by
  simp only [Eff.apply, PS.putO]
  congr 1
  funext l
  cases l with
  | t i j =>
    simp only [Option.some.injEq]
    by_cases e : d = i
    · subst e; simp
    · have e' : ¬ i = d := fun h => e h.symm
      simp [e, e']
  | b n k => simp
theorem apply_putB {d : Option Nat} {r : PV} {n g : Nat} {c : List PV} {ob : Nat → Bool} {clr : Loc → Bool} : ((⟨d, r, fun _ => false, clr, some (n, g, c, ob)⟩ : Eff).apply S) = S.putB d r n g c ob clr := by
  cases d <;> rfl

def gdP (b : Bool) (A B : Prop) : Prop := if b = true then A else B
theorem gdP_congr {b b' : Bool} {A B : Prop} (h : b = b') : gdP b A B = gdP b' A B := by rw [h]
theorem gdP_t {A B : Prop} : gdP true A B = A := rfl
theorem gdP_f {A B : Prop} : gdP false A B = B := rfl

@[simp] theorem rwc_nil : rwc P tr [] Q S = Q S := rfl
@[simp] theorem rwc_none {d : Option Nat} {op : Op} : rwc P tr (⟨none, d, op⟩ :: l) Q S = ow P tr d op S (rwc P tr l Q) := rfl
theorem rwc_some {j : Nat} {w : Bool} {d : Option Nat} {op : Op} : rwc P tr (⟨some (j, w), d, op⟩ :: l) Q S = gdP (gdv (S.t j) w) (ow P tr d op S (rwc P tr l Q)) (rwc P tr l Q (S.setO d .undef)) := rfl
@[simp] theorem setO_some {d : Nat} {v : PV} : S.setO (some d) v = S.set d v := rfl
@[simp] theorem setO_none {v : PV} : S.setO none v = S := rfl
@[simp] theorem gdv_bool {b w : Bool} : gdv (.d (.bool b)) w = (b == w) := rfl
@[simp] theorem gdv_undef {w : Bool} : gdv .undef w = false := rfl
@[simp] theorem ev_tmp {t : Nat} : S.ev (.tmp t) = S.t t := rfl
@[simp] theorem ev_const {v : Value} : S.ev (.const v) = ofConst v := rfl
@[simp] theorem ev_func {f : Nat} : S.ev (.func f) = .fn f [] := rfl
@[simp] theorem ofConst_int {k : IntKind} {n : Int} : ofConst (.int k n) = .d (.int k n) := rfl
@[simp] theorem ofConst_bool {b : Bool} : ofConst (.bool b) = .d (.bool b) := rfl
@[simp] theorem ofConst_str {l : List UInt8} : ofConst (.string ⟨⟨l⟩⟩) = .d (.str l) := rfl
@[simp] theorem ofConst_nils : ofConst (.slice none 0 0) = .d (.slice []) := rfl
@[simp] theorem ofConst_nilp : ofConst (.pointer none) = .d (.opq (.pointer none)) := rfl

def onS (r : Option (PV × Bool)) (f : PV → Bool → Prop) : Prop := match r with | some (a, b) => f a b | none => False
theorem onS_congr {r r' : Option (PV × Bool)} {f : PV → Bool → Prop} (h : r = r') : onS r f = onS r' f := by rw [h]
@[simp] theorem onS_some {a : PV} {b : Bool} {f : PV → Bool → Prop} : onS (some (a, b)) f = f a b := rfl
def onL (r : Option PV) (f : PV → Prop) : Prop := match r with | some a => f a | none => False
theorem onL_congr {r r' : Option PV} {f : PV → Prop} (h : r = r') : onL r f = onL r' f := by rw [h]
@[simp] theorem onL_some {a : PV} {f : PV → Prop} : onL (some a) f = f a := rfl
def onC {α : Type} (r : Option α) (f : α → Prop) : Prop := match r with | some a => f a | none => False
theorem onC_congr {α : Type} {r r' : Option α} {f : α → Prop} (h : r = r') : onC r f = onC r' f := by rw [h]
@[simp] theorem onC_some {α : Type} {a : α} {f : α → Prop} : onC (some a) f = f a := rfl
theorem ow_congr {d : Option Nat} {op : Op} {S' : PS} (h : S = S') : ow P tr d op S K = ow P tr d op S' K := by rw [h]
theorem rwc_congr {S' : PS} (h : S = S') : rwc P tr l Q S = rwc P tr l Q S' := by rw [h]
theorem seqQ_congr {k : PS → Prop} {Q : Exit → PS → Prop} {e e' : Exit} {S S' : PS} (h : S = S') (he : e = e') : seqQ P k Q e S = seqQ P k Q e' S' := by rw [h, he]
theorem blkQ_congr {i : Nat} {Q : Exit → PS → Prop} {e e' : Exit} {S S' : PS} (h : S = S') (he : e = e') : blkQ i Q e S = blkQ i Q e' S' := by rw [h, he]
theorem pwc_congr {c : CC} {Q : Exit → PS → Prop} {S' : PS} (h : S = S') : pwc P tr c Q S = pwc P tr c Q S' := by rw [h]
@[simp] theorem seqQ_n {k : PS → Prop} {Q : Exit → PS → Prop} : seqQ P k Q .normal S = k S := rfl
@[simp] theorem seqQ_r {k : PS → Prop} {Q : Exit → PS → Prop} : seqQ P k Q .ret S = Q .ret S := rfl
@[simp] theorem seqQ_e {k : PS → Prop} {Q : Exit → PS → Prop} {i : Nat} : seqQ P k Q (.exit i) S = Q (.exit i) S := rfl
@[simp] theorem blkQ_n {j : Nat} {Q : Exit → PS → Prop} : blkQ j Q .normal S = Q .normal S := rfl
@[simp] theorem blkQ_r {j : Nat} {Q : Exit → PS → Prop} : blkQ j Q .ret S = Q .ret S := rfl
@[simp] theorem blkQ_e {i j : Nat} {Q : Exit → PS → Prop} : blkQ j Q (.exit i) S = if i = j then Q .normal S else Q (.exit i) S := rfl
@[simp] theorem pwc_skip {Q : Exit → PS → Prop} : pwc P tr .skip Q S = Q .normal S := rfl
@[simp] theorem pwc_reg {Q : Exit → PS → Prop} : pwc P tr (.reg l) Q S = rwc P tr l (Q .normal) S := rfl
@[simp] theorem pwc_seq {a b : CC} {Q : Exit → PS → Prop} : pwc P tr (.seq a b) Q S = pwc P tr a (seqQ P (pwc P tr b Q) Q) S := rfl
@[simp] theorem pwc_block {i : Nat} {c : CC} {Q : Exit → PS → Prop} : pwc P tr (.block i c) Q S = pwc P tr c (blkQ i Q) S := rfl
@[simp] theorem pwc_exit {i : Nat} {Q : Exit → PS → Prop} : pwc P tr (.exit i) Q S = Q (.exit i) S := rfl
@[simp] theorem pwc_ret {Q : Exit → PS → Prop} : pwc P tr .ret Q S = Q .ret S := rfl
def condV (p : PV) (A B : Prop) : Prop := match p with | .d (.bool t) => if t = true then A else B | _ => False
theorem condV_congr {p p' : PV} {A B : Prop} (h : p = p') : condV p A B = condV p' A B := by rw [h]
@[simp] theorem condV_t {A B : Prop} : condV (.d (.bool true)) A B = A := rfl
@[simp] theorem condV_f {A B : Prop} : condV (.d (.bool false)) A B = B := rfl
theorem condV_b {t : Bool} {A B : Prop} : condV (.d (.bool t)) A B = if t = true then A else B := rfl
theorem pwc_cond {c : Operand} {a b : CC} {Q : Exit → PS → Prop} : pwc P tr (.cond c a b) Q S = condV (S.ev c) (pwc P tr a Q S) (pwc P tr b Q S) := rfl
/-! ### Each operation -/
theorem ow_move {d s : Nat} (h : ¬ d ∈ tr) : ow P tr (some d) (.move (.tmp s)) S K = K (S.set d (S.t s)) := by
  have : effF P (d + 1) tr S { dst := some d, op := .move (.tmp s), type := 0, pos := "", after := #[], guard := none } = some ⟨some d, S.t s, fun _ => false, fun _ => false, none⟩ := by
    simp [effF, dstOk, mvEff, isTr, h]
  simp only [ow, owp, Option.getD_some, this, apply_set]
theorem ow_moveT {d s : Nat} (h : d ∈ tr) : ow P tr (some d) (.move (.tmp s)) S K = K (S.putO d (S.t s) (fun j => S.own (.t s j)) (slotOf s)) := by
  have : effF P (d + 1) tr S { dst := some d, op := .move (.tmp s), type := 0, pos := "", after := #[], guard := none } = some ⟨some d, S.t s, fun j => S.own (.t s j), slotOf s, none⟩ := by
    simp [effF, dstOk, mvEff, isTr, h]
  simp only [ow, owp, Option.getD_some, this, apply_putO]
theorem effF_moveC {d : Nat} {v : Value} {op : Op} (ho : op = .move (.const v) ∨ op = .assign (.const v)) : effF P (d + 1) tr S { dst := some d, op := op, type := 0, pos := "", after := #[], guard := none } = some ⟨some d, ofConst v, fun _ => isNilV v, fun _ => false, none⟩ := by
  rcases ho with rfl | rfl <;> simp [effF, dstOk, mvEff]
theorem ow_moveC {d : Nat} {v : Value} : ow P tr (some d) (.move (.const v)) S K = K (S.putO d (ofConst v) (fun _ => isNilV v) (fun _ => false)) := by
  simp only [ow, owp, Option.getD_some, effF_moveC (.inl rfl), apply_putO]
theorem ow_assignC {d : Nat} {v : Value} : ow P tr (some d) (.assign (.const v)) S K = K (S.putO d (ofConst v) (fun _ => isNilV v) (fun _ => false)) := by
  simp only [ow, owp, Option.getD_some, effF_moveC (.inr rfl), apply_putO]
theorem ow_assign {d s : Nat} : ow P tr (some d) (.assign (.tmp s)) S K = K (S.putO d (S.t s) (fun j => S.own (.t s j)) (slotOf s)) := by
  have : effF P (d + 1) tr S { dst := some d, op := .assign (.tmp s), type := 0, pos := "", after := #[], guard := none } = some ⟨some d, S.t s, fun j => S.own (.t s j), slotOf s, none⟩ := by
    simp [effF, dstOk, mvEff]
  simp only [ow, owp, Option.getD_some, this, apply_putO]

/-- What a quiet operation comes to. -/
def qv (P : Program) (S : PS) (op : Op) : Option (PV × Bool) := effV P S { dst := none, op := op, type := 0, pos := "", after := #[], guard := none }
def isQ : Op → Bool
  | .pick .. => true
  | .nilCheck .. => true
  | .binOp .. => true
  | .unOp .. => true
  | .fieldAddr .. => true
  | .field .. => true
  | .indexAddr .. => true
  | .index .. => true
  | .slice .. => true
  | .build .. => true
  | .buildSlice .. => true
  | .makeFunc .. => true
  | .convert .. => true
  | .call ⟨.builtin .len, _, _⟩ => true
  | .call ⟨.builtin .min, _, _⟩ => true
  | .call ⟨.builtin .max, _, _⟩ => true
  | _ => false
theorem ow_q {d : Nat} {op : Op} (h : isQ op = true) : ow P tr (some d) op S K = onS (qv P S op) fun r b => K (S.putO d r (fun _ => b) (fun _ => false)) := by
  have h1 : effF P (d + 1) tr S { dst := some d, op := op, type := 0, pos := "", after := #[], guard := none } = (qv P S op).map fun r => ⟨some d, r.1, fun _ => r.2, fun _ => false, none⟩ := by
    have hd : dstOk (d + 1) { dst := some d, op := op, type := 0, pos := "", after := #[], guard := none } = true := by simp [dstOk]
    unfold effF
    rw [if_pos hd]
    cases op with
    | call c =>
      obtain ⟨cal, a, t⟩ := c
      cases cal with
      | builtin b => cases b <;> first | rfl | (simp [isQ] at h; done)
      | _ => simp [isQ] at h
    | _ => first | rfl | (simp [isQ] at h; done)
  have h2 : ow P tr (some d) op S K = (match effF P (d + 1) tr S { dst := some d, op := op, type := 0, pos := "", after := #[], guard := none } with | some E => K (E.apply S) | none => False) := by
    unfold ow owp
    simp only [Option.getD_some]
    cases op with
    | call c =>
      obtain ⟨cal, a, t⟩ := c
      cases cal with
      | value x => simp [isQ] at h
      | _ => rfl
    | _ => rfl
  rw [h2, h1]
  cases hq : qv P S op with
  | none => simp [onS]
  | some r => simp [onS, apply_putO]

theorem ow_pick {d : Nat} {c a b : Operand} : ow P tr (some d) (.pick c a b) S K = onS (qv P S (.pick c a b)) fun r b => K (S.putO d r (fun _ => b) (fun _ => false)) := ow_q rfl
theorem ow_nilCheck {d : Nat} {x : Operand} : ow P tr (some d) (.nilCheck x) S K = onS (qv P S (.nilCheck x)) fun r b => K (S.putO d r (fun _ => b) (fun _ => false)) := ow_q rfl
theorem ow_binOp {d : Nat} {op : BinOp} {t t' : TypeId} {x y : Operand} : ow P tr (some d) (.binOp op t x y t') S K = onS (qv P S (.binOp op t x y t')) fun r b => K (S.putO d r (fun _ => b) (fun _ => false)) := ow_q rfl
theorem ow_unOp {d : Nat} {op : UnOp} {t : TypeId} {x : Operand} : ow P tr (some d) (.unOp op t x) S K = onS (qv P S (.unOp op t x)) fun r b => K (S.putO d r (fun _ => b) (fun _ => false)) := ow_q rfl
theorem ow_fieldAddr {d : Nat} {t : TypeId} {x : Operand} {f : Nat} : ow P tr (some d) (.fieldAddr t x f) S K = onS (qv P S (.fieldAddr t x f)) fun r b => K (S.putO d r (fun _ => b) (fun _ => false)) := ow_q rfl
theorem ow_field {d : Nat} {t : TypeId} {x : Operand} {f : Nat} : ow P tr (some d) (.field t x f) S K = onS (qv P S (.field t x f)) fun r b => K (S.putO d r (fun _ => b) (fun _ => false)) := ow_q rfl
theorem ow_indexAddr {d : Nat} {t : TypeId} {x i : Operand} : ow P tr (some d) (.indexAddr t x i) S K = onS (qv P S (.indexAddr t x i)) fun r b => K (S.putO d r (fun _ => b) (fun _ => false)) := ow_q rfl
theorem ow_index {d : Nat} {t : TypeId} {x i : Operand} : ow P tr (some d) (.index t x i) S K = onS (qv P S (.index t x i)) fun r b => K (S.putO d r (fun _ => b) (fun _ => false)) := ow_q rfl
theorem ow_slice {d : Nat} {t : TypeId} {x : Operand} {lo hi mx : Option Operand} : ow P tr (some d) (.slice t x lo hi mx) S K = onS (qv P S (.slice t x lo hi mx)) fun r b => K (S.putO d r (fun _ => b) (fun _ => false)) := ow_q rfl
theorem ow_build {d : Nat} {t : TypeId} {ps : Array (Nat × Operand)} : ow P tr (some d) (.build t ps) S K = onS (qv P S (.build t ps)) fun r b => K (S.putO d r (fun _ => b) (fun _ => false)) := ow_q rfl
theorem ow_buildSlice {d : Nat} {t : TypeId} {n : Nat} {ps : Array (Nat × Operand)} : ow P tr (some d) (.buildSlice t n ps) S K = onS (qv P S (.buildSlice t n ps)) fun r b => K (S.putO d r (fun _ => b) (fun _ => false)) := ow_q rfl
theorem ow_makeFunc {d : Nat} {f : Fn} {a b : Array Operand} : ow P tr (some d) (.makeFunc f a b) S K = onS (qv P S (.makeFunc f a b)) fun r b => K (S.putO d r (fun _ => b) (fun _ => false)) := ow_q rfl
theorem ow_convert {d : Nat} {s t : TypeId} {x : Operand} : ow P tr (some d) (.convert s t x) S K = onS (qv P S (.convert s t x)) fun r b => K (S.putO d r (fun _ => b) (fun _ => false)) := ow_q rfl
theorem ow_len {d : Nat} {a : Array Operand} {ts : Array TypeId} : ow P tr (some d) (.call ⟨.builtin .len, a, ts⟩) S K = onS (qv P S (.call ⟨.builtin .len, a, ts⟩)) fun r b => K (S.putO d r (fun _ => b) (fun _ => false)) := ow_q rfl
theorem ow_min {d : Nat} {a : Array Operand} {ts : Array TypeId} : ow P tr (some d) (.call ⟨.builtin .min, a, ts⟩) S K = onS (qv P S (.call ⟨.builtin .min, a, ts⟩)) fun r b => K (S.putO d r (fun _ => b) (fun _ => false)) := ow_q rfl
theorem ow_max {d : Nat} {a : Array Operand} {ts : Array TypeId} : ow P tr (some d) (.call ⟨.builtin .max, a, ts⟩) S K = onS (qv P S (.call ⟨.builtin .max, a, ts⟩)) fun r b => K (S.putO d r (fun _ => b) (fun _ => false)) := ow_q rfl
end

end BoEng
