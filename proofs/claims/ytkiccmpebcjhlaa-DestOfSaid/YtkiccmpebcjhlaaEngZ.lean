/- The rules of reckoning, third part: states in a first-order form. -/
import Derived.Test.YtkiccmpebcjhlaaEngY
namespace BoEng
open Go Go.RowKit

section
variable {P : Program} {tr : List Nat} {S : PS} {K : PS → Prop} {Q : PS → Prop} {l : List CO}

/-- A slot is set by a quiet operation. -/
def PS.q (S : PS) (d : Nat) (v : PV) (b : Bool) : PS := S.putO d v (fun _ => b) (fun _ => false)
@[simp] theorem q_t {d : Nat} {v : PV} {b : Bool} {i : Nat} : (S.q d v b).t i = if i = d then v else S.t i := rfl
@[simp] theorem q_box {d : Nat} {v : PV} {b : Bool} : (S.q d v b).box = S.box := rfl
@[simp] theorem q_gen {d : Nat} {v : PV} {b : Bool} : (S.q d v b).gen = S.gen := rfl
@[simp] theorem q_ownt {d : Nat} {v : PV} {b : Bool} {i j : Nat} : (S.q d v b).own (.t i j) = if i = d then b else S.own (.t i j) := by simp [PS.q]
@[simp] theorem q_ownb {d : Nat} {v : PV} {b : Bool} {i j : Nat} : (S.q d v b).own (.b i j) = S.own (.b i j) := by simp [PS.q]
/-- A slot is moved, with what is one's own. -/
def PS.m (S : PS) (d s : Nat) (v : PV) : PS := S.putO d v (fun j => S.own (.t s j)) (slotOf s)
@[simp] theorem m_t {d s : Nat} {v : PV} {i : Nat} : (S.m d s v).t i = if i = d then v else S.t i := rfl
@[simp] theorem m_box {d s : Nat} {v : PV} : (S.m d s v).box = S.box := rfl
@[simp] theorem m_gen {d s : Nat} {v : PV} : (S.m d s v).gen = S.gen := rfl
@[simp] theorem m_ownt {d s : Nat} {v : PV} {i j : Nat} : (S.m d s v).own (.t i j) = if i = d then S.own (.t s j) else if i = s then false else S.own (.t i j) := by
  simp only [PS.m, putO_ownt, slotOf_t]
  by_cases h : i = d
  · simp [h]
  · by_cases h2 : i = s <;> simp [h, h2]
@[simp] theorem m_ownb {d s : Nat} {v : PV} {i j : Nat} : (S.m d s v).own (.b i j) = S.own (.b i j) := by simp [PS.m]
/-- What is appended. -/
def PS.ap (S : PS) (d s : Nat) (xs : List DV) : PS := S.putO d (.d (.slice xs)) (fun j => j == 0) (slotOf s)
@[simp] theorem ap_t {d s : Nat} {xs : List DV} {i : Nat} : (S.ap d s xs).t i = if i = d then .d (.slice xs) else S.t i := rfl
@[simp] theorem ap_box {d s : Nat} {xs : List DV} : (S.ap d s xs).box = S.box := rfl
@[simp] theorem ap_gen {d s : Nat} {xs : List DV} : (S.ap d s xs).gen = S.gen := rfl
@[simp] theorem ap_ownt {d s : Nat} {xs : List DV} {i j : Nat} : (S.ap d s xs).own (.t i j) = if i = d then j == 0 else if i = s then false else S.own (.t i j) := by
  simp only [PS.ap, putO_ownt, slotOf_t]
  by_cases h : i = d
  · simp [h]
  · by_cases h2 : i = s <;> simp [h, h2]
@[simp] theorem ap_ownb {d s : Nat} {xs : List DV} {i j : Nat} : (S.ap d s xs).own (.b i j) = S.own (.b i j) := by simp [PS.ap]
/-- What is taken out of a box's cell. -/
def PS.lt (S : PS) (d : Nat) (v : PV) (n o : Nat) : PS := S.putO d v (fun j => j == 0 && S.own (.b n o)) (fun l => l == .b n o)
@[simp] theorem lt_t {d n o : Nat} {v : PV} {i : Nat} : (S.lt d v n o).t i = if i = d then v else S.t i := rfl
@[simp] theorem lt_box {d n o : Nat} {v : PV} : (S.lt d v n o).box = S.box := rfl
@[simp] theorem lt_gen {d n o : Nat} {v : PV} : (S.lt d v n o).gen = S.gen := rfl
@[simp] theorem lt_ownt {d n o : Nat} {v : PV} {i j : Nat} : (S.lt d v n o).own (.t i j) = if i = d then j == 0 && S.own (.b n o) else S.own (.t i j) := by
  have : (Loc.t i j == Loc.b n o) = false := beq_eq_false_iff_ne.2 (by simp)
  simp [PS.lt, this]
@[simp] theorem lt_ownb {d n o : Nat} {v : PV} {i j : Nat} : (S.lt d v n o).own (.b i j) = if i = n ∧ j = o then false else S.own (.b i j) := by
  simp only [PS.lt, putO_ownb]
  by_cases h : i = n ∧ j = o
  · simp [h.1, h.2]
  · rw [if_neg h]
    have : (Loc.b i j == Loc.b n o) = false := by simpa using h
    simp [this]
/-- One of several results. -/
def PS.ex (S : PS) (d : Nat) (v : PV) (s k : Nat) : PS := S.putO d v (fun j => j == 0 && S.own (.t s k)) (fun l => l == .t s k)
@[simp] theorem ex_t {d s k : Nat} {v : PV} {i : Nat} : (S.ex d v s k).t i = if i = d then v else S.t i := rfl
@[simp] theorem ex_box {d s k : Nat} {v : PV} : (S.ex d v s k).box = S.box := rfl
@[simp] theorem ex_gen {d s k : Nat} {v : PV} : (S.ex d v s k).gen = S.gen := rfl
@[simp] theorem ex_ownt {d s k : Nat} {v : PV} {i j : Nat} : (S.ex d v s k).own (.t i j) = if i = d then j == 0 && S.own (.t s k) else if i = s ∧ j = k then false else S.own (.t i j) := by
  simp only [PS.ex, putO_ownt]
  by_cases h : i = d
  · simp [h]
  · by_cases h2 : i = s ∧ j = k
    · rw [if_neg h, if_neg h, if_pos h2]
      simp [h2.1, h2.2]
    · rw [if_neg h, if_neg h, if_neg h2]
      have : (Loc.t i j == Loc.t s k) = false := by simpa using h2
      simp [this]
@[simp] theorem ex_ownb {d s k : Nat} {v : PV} {i j : Nat} : (S.ex d v s k).own (.b i j) = S.own (.b i j) := by simp [PS.ex]
/-- A new box, and its place in a slot. -/
def PS.nb (S : PS) (d : Nat) (v : PV) (g : Nat) (c : List PV) (z : Nat → Bool) : PS := S.putB (some d) v (FO + d) g c z (fun _ => false)
@[simp] theorem nb_t {d g : Nat} {v : PV} {c : List PV} {z : Nat → Bool} {i : Nat} : (S.nb d v g c z).t i = if i = d then v else S.t i := by
  simp only [PS.nb, putB_t, Option.some.injEq]
  by_cases h : i = d
  · simp [h]
  · rw [if_neg (fun e => h e.symm), if_neg h]
@[simp] theorem nb_box {d g : Nat} {v : PV} {c : List PV} {z : Nat → Bool} {m : Nat} : (S.nb d v g c z).box m = if m = FO + d then c else S.box m := rfl
@[simp] theorem nb_gen {d g : Nat} {v : PV} {c : List PV} {z : Nat → Bool} {m : Nat} : (S.nb d v g c z).gen m = if m = FO + d then g else S.gen m := rfl
@[simp] theorem nb_ownt {d g : Nat} {v : PV} {c : List PV} {z : Nat → Bool} {i j : Nat} : (S.nb d v g c z).own (.t i j) = if i = d then false else S.own (.t i j) := by
  simp only [PS.nb, putB_ownt, Option.some.injEq]
  by_cases h : i = d
  · simp [h]
  · rw [if_neg (fun e => h e.symm), if_neg h]; simp
@[simp] theorem nb_ownb {d g : Nat} {v : PV} {c : List PV} {z : Nat → Bool} {m k : Nat} : (S.nb d v g c z).own (.b m k) = if m = FO + d then z k else S.own (.b m k) := by
  simp only [PS.nb, putB_ownb]
  by_cases h : m = FO + d <;> simp [h]
/-- A store. -/
def PS.st (S : PS) (v : Operand) (n g o len : Nat) (c : List PV) : PS := S.putB none .undef n g c (fun k => if o ≤ k ∧ k < o + len then stoOwn S v len else S.own (.b n k)) (stoClr v)
@[simp] theorem st_t {v : Operand} {n g o len : Nat} {c : List PV} {i : Nat} : (S.st v n g o len c).t i = S.t i := by simp [PS.st]
@[simp] theorem st_box {v : Operand} {n g o len : Nat} {c : List PV} {m : Nat} : (S.st v n g o len c).box m = if m = n then c else S.box m := rfl
@[simp] theorem st_gen {v : Operand} {n g o len : Nat} {c : List PV} {m : Nat} : (S.st v n g o len c).gen m = if m = n then g else S.gen m := rfl
@[simp] theorem st_ownt {v : Operand} {n g o len : Nat} {c : List PV} {i j : Nat} : (S.st v n g o len c).own (.t i j) = (S.own (.t i j) && !stoClr v (.t i j)) := by simp [PS.st]
@[simp] theorem st_ownb {v : Operand} {n g o len : Nat} {c : List PV} {m k : Nat} : (S.st v n g o len c).own (.b m k) = if m = n then (if o ≤ k ∧ k < o + len then stoOwn S v len else S.own (.b n k)) else S.own (.b m k) && !stoClr v (.b m k) := rfl
@[simp] theorem stoClr_b {v : Operand} {m k : Nat} : stoClr v (.b m k) = false := by cases v <;> rfl

/-! ### The operations -/
/-- What follows, if there is a state. -/
def onSt (o : Option PS) (K : PS → Prop) : Prop := match o with | some S => K S | none => False
@[simp] theorem onSt_some {K : PS → Prop} : onSt (some S) K = K S := rfl
@[simp] theorem onSt_none {K : PS → Prop} : onSt none K = False := rfl
theorem onS_st {o : Option (PV × Bool)} {f : PV × Bool → PS} : onS o (fun r b => K (f (r, b))) = onSt (o.map f) K := by
  cases o <;> rfl
theorem onC_st {α : Type} {o : Option α} {f : α → PS} : onC o (fun r => K (f r)) = onSt (o.map f) K := by
  cases o <;> rfl
theorem onL_st {o : Option PV} {f : PV → PS} : onL o (fun r => K (f r)) = onSt (o.map f) K := by
  cases o <;> rfl
@[simp] theorem o_move {d s : Nat} : ow P tr (some d) (.move (.tmp s)) S K = K (if d ∈ tr then S.m d s (S.t s) else S.set d (S.t s)) := by
  by_cases h : d ∈ tr
  · rw [if_pos h, ow_moveT h]; rfl
  · rw [if_neg h, ow_move h]
@[simp] theorem o_moveC {d : Nat} {v : Value} : ow P tr (some d) (.move (.const v)) S K = K (S.q d (ofConst v) (isNilV v)) := by rw [ow_moveC]; rfl
@[simp] theorem o_assignC {d : Nat} {v : Value} : ow P tr (some d) (.assign (.const v)) S K = K (S.q d (ofConst v) (isNilV v)) := by rw [ow_assignC]; rfl
@[simp] theorem o_assign {d s : Nat} : ow P tr (some d) (.assign (.tmp s)) S K = K (S.m d s (S.t s)) := by rw [ow_assign]; rfl
/-- A quiet operation's state. -/
def PS.q2 (S : PS) (d : Nat) (r : PV × Bool) : PS := S.q d r.1 r.2
@[simp] theorem q2_mk {d : Nat} {r : PV} {b : Bool} : S.q2 d (r, b) = S.q d r b := rfl
theorem o_q {d : Nat} {op : Op} (h : isQ op = true) : ow P tr (some d) op S K = onSt ((qv P S op).map (S.q2 d)) K := (ow_q h).trans (onS_st (f := S.q2 d))
@[simp] theorem o_pick {d : Nat} {c a b : Operand} : ow P tr (some d) (.pick c a b) S K = onSt ((qv P S (.pick c a b)).map (S.q2 d)) K := o_q rfl
@[simp] theorem o_nilCheck {d : Nat} {x : Operand} : ow P tr (some d) (.nilCheck x) S K = onSt ((qv P S (.nilCheck x)).map (S.q2 d)) K := o_q rfl
@[simp] theorem o_binOp {d : Nat} {op : BinOp} {t t' : TypeId} {x y : Operand} : ow P tr (some d) (.binOp op t x y t') S K = onSt ((qv P S (.binOp op t x y t')).map (S.q2 d)) K := o_q rfl
@[simp] theorem o_unOp {d : Nat} {op : UnOp} {t : TypeId} {x : Operand} : ow P tr (some d) (.unOp op t x) S K = onSt ((qv P S (.unOp op t x)).map (S.q2 d)) K := o_q rfl
@[simp] theorem o_fieldAddr {d : Nat} {t : TypeId} {x : Operand} {f : Nat} : ow P tr (some d) (.fieldAddr t x f) S K = onSt ((qv P S (.fieldAddr t x f)).map (S.q2 d)) K := o_q rfl
@[simp] theorem o_field {d : Nat} {t : TypeId} {x : Operand} {f : Nat} : ow P tr (some d) (.field t x f) S K = onSt ((qv P S (.field t x f)).map (S.q2 d)) K := o_q rfl
@[simp] theorem o_indexAddr {d : Nat} {t : TypeId} {x i : Operand} : ow P tr (some d) (.indexAddr t x i) S K = onSt ((qv P S (.indexAddr t x i)).map (S.q2 d)) K := o_q rfl
@[simp] theorem o_index {d : Nat} {t : TypeId} {x i : Operand} : ow P tr (some d) (.index t x i) S K = onSt ((qv P S (.index t x i)).map (S.q2 d)) K := o_q rfl
@[simp] theorem o_slice {d : Nat} {t : TypeId} {x : Operand} {lo hi mx : Option Operand} : ow P tr (some d) (.slice t x lo hi mx) S K = onSt ((qv P S (.slice t x lo hi mx)).map (S.q2 d)) K := o_q rfl
@[simp] theorem o_build {d : Nat} {t : TypeId} {ps : Array (Nat × Operand)} : ow P tr (some d) (.build t ps) S K = onSt ((qv P S (.build t ps)).map (S.q2 d)) K := o_q rfl
@[simp] theorem o_buildSlice {d : Nat} {t : TypeId} {n : Nat} {ps : Array (Nat × Operand)} : ow P tr (some d) (.buildSlice t n ps) S K = onSt ((qv P S (.buildSlice t n ps)).map (S.q2 d)) K := o_q rfl
@[simp] theorem o_makeFunc {d : Nat} {f : Fn} {a b : Array Operand} : ow P tr (some d) (.makeFunc f a b) S K = onSt ((qv P S (.makeFunc f a b)).map (S.q2 d)) K := o_q rfl
@[simp] theorem o_convert {d : Nat} {s t : TypeId} {x : Operand} : ow P tr (some d) (.convert s t x) S K = onSt ((qv P S (.convert s t x)).map (S.q2 d)) K := o_q rfl
@[simp] theorem o_len {d : Nat} {a : Array Operand} {ts : Array TypeId} : ow P tr (some d) (.call ⟨.builtin .len, a, ts⟩) S K = onSt ((qv P S (.call ⟨.builtin .len, a, ts⟩)).map (S.q2 d)) K := o_q rfl
@[simp] theorem o_min {d : Nat} {a : Array Operand} {ts : Array TypeId} : ow P tr (some d) (.call ⟨.builtin .min, a, ts⟩) S K = onSt ((qv P S (.call ⟨.builtin .min, a, ts⟩)).map (S.q2 d)) K := o_q rfl
@[simp] theorem o_max {d : Nat} {a : Array Operand} {ts : Array TypeId} : ow P tr (some d) (.call ⟨.builtin .max, a, ts⟩) S K = onSt ((qv P S (.call ⟨.builtin .max, a, ts⟩)).map (S.q2 d)) K := o_q rfl
def PS.nbC (S : PS) (d g : Nat) (z : Nat → Bool) (c : List DV) : PS := S.nb d (.ptr (FO + d) g 0) g (c.map .d) z
@[simp] theorem nbC_cons {d g : Nat} {z : Nat → Bool} {x : DV} {c : List DV} : S.nbC d g z (x :: c) = S.nb d (.ptr (FO + d) g 0) g (.d x :: c.map .d) z := rfl
@[simp] theorem o_alloc {d : Nat} {e : TypeId} : ow P tr (some d) (.alloc e) S K = onSt ((zeroC P e).map (S.nbC d (S.gen (FO + d) + 1) (nilC P e))) K := ow_alloc.trans (onC_st (f := S.nbC d (S.gen (FO + d) + 1) (nilC P e)))
def PS.nbP (S : PS) (d g : Nat) (c : List PV) : PS := S.nb d (.ptr (FO + d) g 0) g c (fun _ => false)
@[simp] theorem nbP_cons {d g : Nat} {x : PV} {c : List PV} : S.nbP d g (x :: c) = S.nb d (.ptr (FO + d) g 0) g (x :: c) (fun _ => false) := rfl
@[simp] theorem o_box {d : Nat} {e : TypeId} {x : Operand} : ow P tr (some d) (.box e x) S K = onSt ((pcells (S.ev x)).map (S.nbP d (S.gen (FO + d) + 1))) K := ow_box.trans (onC_st (f := S.nbP d (S.gen (FO + d) + 1)))
def PS.stS (S : PS) (v : Operand) (q : Sto) : PS := S.st v q.n q.g q.o q.cs.length (over (S.box q.n) q.o q.cs)
@[simp] theorem stS_mk {v : Operand} {n g o : Nat} {cs : List PV} : S.stS v ⟨n, g, o, cs⟩ = S.st v n g o cs.length (over (S.box n) o cs) := rfl
@[simp] theorem o_store {t : TypeId} {x v : Operand} : ow P tr none (.store t x v) S K = onSt ((stoV P t S.gen S.box (S.ev x) (pcells (S.ev v))).map (S.stS v)) K := ow_sto.trans (onC_st (f := S.stS v))
/-- A load: with what is one's own, if it is to be moved. -/
def ldT (tr : List Nat) (P : Program) (d : Nat) (t : TypeId) (x : PV) (S : PS) (r : PV) : Option PS :=
  if d ∈ tr then (match x with | .ptr n _ o => if aggT P t = some false then some (S.lt d r n o) else none | _ => none) else some (S.set d r)
@[simp] theorem ldT_f {d : Nat} {t : TypeId} {x : PV} {r : PV} : ldT [] P d t x S r = some (S.set d r) := by simp [ldT]
@[simp] theorem ldT_d {d : Nat} {t : TypeId} {x : DV} {r : PV} : ldT tr P d t (.d x) S r = if d ∈ tr then none else some (S.set d r) := rfl
@[simp] theorem ldT_c {d : Nat} {t : TypeId} {x : List DV} {r : PV} : ldT tr P d t (.cptr x) S r = if d ∈ tr then none else some (S.set d r) := rfl
@[simp] theorem ldT_p {d n g o : Nat} {t : TypeId} {r : PV} : ldT tr P d t (.ptr n g o) S r = if d ∈ tr then (if aggT P t = some false then some (S.lt d r n o) else none) else some (S.set d r) := rfl
@[simp] theorem o_load {d : Nat} {t : TypeId} {x : Operand} : ow P tr (some d) (.load t x) S K = onSt ((loadV P S.gen S.box t (S.ev x)).bind (ldT tr P d t (S.ev x) S)) K := by
  by_cases h : d ∈ tr
  · cases hs : S.ev x with
    | ptr n g o =>
      by_cases ha : aggT P t = some false
      · have := ow_loadT (P := P) (K := K) h hs ha
        rw [this, hs]
        cases loadV P S.gen S.box t (.ptr n g o) with
        | none => rfl
        | some r => simp [onL, h, ha, PS.lt]
      · have : ow P tr (some d) (.load t x) S K = False := by
          rw [ow_plainE (by simp)]
          have e : effF P ((some d).getD 0 + 1) tr S { dst := some d, op := .load t x, type := 0, pos := "", after := #[], guard := none } = none := by
            simp only [effF, dstOk, isTr, loadPV_eq, h, List.contains_iff_mem, hs]
            simp only [Option.getD_some, Nat.lt_add_one, decide_true, if_true]
            cases loadV P S.gen S.box t (.ptr n g o) with
            | none => rfl
            | some r =>
              simp only
              cases hh : aggT P t with
              | none => rfl
              | some b => cases b with
                | true => rfl
                | false => exact absurd hh ha
          rw [e]
        rw [this]
        cases loadV P S.gen S.box t (.ptr n g o) with
        | none => rfl
        | some r => simp [h, ha]
    | _ =>
      have : ow P tr (some d) (.load t x) S K = False := by
        rw [ow_plainE (by simp)]
        have e : effF P ((some d).getD 0 + 1) tr S { dst := some d, op := .load t x, type := 0, pos := "", after := #[], guard := none } = none := by
          simp only [effF, dstOk, isTr, loadPV_eq, h, List.contains_iff_mem, hs]
          simp only [Option.getD_some, Nat.lt_add_one, decide_true, if_true]
          split <;> rfl
        rw [e]
      rw [this]
      symm
      cases hl : loadV P S.gen S.box t _ with
      | none => rfl
      | some r => simp [ldT, h]
  · rw [ow_load h]
    cases loadV P S.gen S.box t (S.ev x) with
    | none => rfl
    | some r => simp [onL, ldT, h]
def PS.exS (S : PS) (d s k : Nat) (p : PV) : PS := S.ex d p s k
@[simp] theorem exS_eq {d s k : Nat} {p : PV} : S.exS d s k p = S.ex d p s k := rfl
@[simp] theorem o_ext {d s k : Nat} : ow P tr (some d) (.extract (.tmp s) k) S K = onSt ((extV (S.t s) k).map (S.exS d s k)) K := ow_ext.trans (onL_st (f := S.exS d s k))
@[simp] theorem o_app {d s t tx : Nat} {x : Operand} : ow P tr (some d) (.call ⟨.builtin .append, ⟨[.tmp s, x]⟩, ⟨[t, tx]⟩⟩) S K =
    onSt ((apV (apT P t) (P.underlying tx) (S.own (.t s 0)) (S.t s) (S.ev x)).map (S.ap d s)) K := ow_app.trans (onC_st (f := S.ap d s))
theorem o_mk {d t : Nat} {l c : Operand} {n : Nat} {z : DV} (h : mkV (apT P t) (S.ev l) (S.ev c) = some (n, z)) :
    ow P tr (some d) (.makeSlice t l c) S K = K (S.nb d (.bsl (FO + d) (S.gen (FO + d) + 1) n) (S.gen (FO + d) + 1) (List.replicate n (.d z)) (fun _ => false)) := ow_mk h
/-- A call. -/
theorem o_call {d : Nat} {f : FuncId} {caps : List PV} {x : Operand} {args : List Operand} {ts : Array TypeId} {r : PV} {ro : Nat → Bool} {as : List PV} (hx : S.ev x = .fn f caps) (ha : args.map S.ev ++ caps = as) (hH : Holds P f as r ro) (hf : as.all ptrFree = true)
    (hK : K (S.putO d r ro (fun _ => false))) : ow P tr (some d) (.call ⟨.value x, ⟨args⟩, ts⟩) S K := ow_call hx ha hf hH hK

/-! ### Codes -/
def isB : PV → Bool | .d (.bool _) => true | _ => false
@[simp] theorem isB_b {b : Bool} : isB (.d (.bool b)) = true := rfl
def tV : PV → Bool | .d (.bool b) => b | _ => false
@[simp] theorem tV_b {b : Bool} : tV (.d (.bool b)) = b := rfl
@[simp] theorem c_cond {c : Operand} {a b : CC} {Q : Exit → PS → Prop} : pwc P tr (.cond c a b) Q S = if isB (S.ev c) = true then (if tV (S.ev c) = true then pwc P tr a Q S else pwc P tr b Q S) else False := by
  rw [pwc_cond]
  generalize S.ev c = p
  unfold condV isB tV
  cases p with
  | d x => cases x <;> simp
  | _ => simp
@[simp] theorem c_some {j : Nat} {w : Bool} {d : Option Nat} {op : Op} : rwc P tr (⟨some (j, w), d, op⟩ :: l) Q S = if gdv (S.t j) w = true then ow P tr d op S (rwc P tr l Q) else rwc P tr l Q (S.setO d .undef) := rfl
attribute [simp] over

theorem nth_nat {α : Type} [Inhabited α] {l : List α} {i : Nat} (h : i < l.length) : nth l (i : Int) = l[i] := by
  simp [nth, List.getD_eq_getElem?_getD, List.getElem?_eq_getElem h]
@[simp] theorem isNilV_int {k : IntKind} {n : Int} : isNilV (.int k n) = false := rfl
@[simp] theorem isNilV_bool {b : Bool} : isNilV (.bool b) = false := rfl
@[simp] theorem isNilV_str {b : ByteArray} : isNilV (.string b) = false := rfl
@[simp] theorem isNilV_nil : isNilV (.slice none 0 0) = true := rfl

@[simp] theorem ptrFree_d {x : DV} : ptrFree (.d x) = true := rfl
@[simp] theorem ptrFree_c {x : List DV} : ptrFree (.cptr x) = true := rfl
@[simp] theorem ptrFree_f {f : FuncId} : ptrFree (.fn f []) = true := rfl

/-! ### Structs compared -/
def eqV2 (k : Nat) (x y : Option DV) : Option Bool :=
  match k, x, y with
  | 0, some (.int k a), some (.int k' b) => if k = k' then some (decide (a = b)) else none
  | 1, some (.bool a), some (.bool b) => some (a == b)
  | 2, some (.str a), some (.str b) => some (decide (a = b))
  | _, _, _ => none
@[simp] theorem eqV2_i {k : IntKind} {a b : Int} : eqV2 0 (some (.int k a)) (some (.int k b)) = some (decide (a = b)) := by simp [eqV2]
@[simp] theorem eqV2_b {a b : Bool} : eqV2 1 (some (.bool a)) (some (.bool b)) = some (a == b) := rfl
@[simp] theorem eqV2_s {a b : List UInt8} : eqV2 2 (some (.str a)) (some (.str b)) = some (decide (a = b)) := rfl
def eqL : List (Nat × Nat) → List DV → List DV → Option Bool
  | [], _, _ => some true
  | (o, k) :: r, xs, ys => (eqV2 k xs[o]? ys[o]?).bind fun b => (eqL r xs ys).map fun r => b && r
@[simp] theorem eqL_nil {xs ys : List DV} : eqL [] xs ys = some true := rfl
@[simp] theorem eqL_cons {o k : Nat} {r : List (Nat × Nat)} {xs ys : List DV} : eqL ((o, k) :: r) xs ys = (eqV2 k xs[o]? ys[o]?).bind fun b => (eqL r xs ys).map fun r => b && r := rfl
def kindN : Option TypeDesc → Option Nat
  | some (.int _) => some 0
  | some .bool => some 1
  | some .string => some 2
  | _ => none
def eqFs (P : Program) : List Field → Option (List (Nat × Nat))
  | [] => some []
  | f :: fs => if f.name = "_" then none else (kindN (P.underlying f.type)).bind fun k => (eqFs P fs).map ((f.offset, k) :: ·)
def eqS (P : Program) (t : TypeId) : Option (List (Nat × Nat)) :=
  match P.underlying t with
  | some (.struct fs) => if eqOk P t then eqFs P fs.toList else none
  | _ => none
theorem eqV_i {k : IntKind} {a b : Option DV} : eqV (some (.int k)) a b = eqV2 0 a b := by
  rcases a with _ | (_ | _ | _ | _ | _ | _) <;> rcases b with _ | (_ | _ | _ | _ | _ | _) <;> rfl
theorem eqV_b {a b : Option DV} : eqV (some .bool) a b = eqV2 1 a b := by
  rcases a with _ | (_ | _ | _ | _ | _ | _) <;> rcases b with _ | (_ | _ | _ | _ | _ | _) <;> rfl
theorem eqV_s {a b : Option DV} : eqV (some .string) a b = eqV2 2 a b := by
  rcases a with _ | (_ | _ | _ | _ | _ | _) <;> rcases b with _ | (_ | _ | _ | _ | _ | _) <;> rfl
theorem eqF_L : ∀ (fs : List Field) (ks : List (Nat × Nat)) (xs ys : List DV), eqFs P fs = some ks → eqF P xs ys fs = eqL ks xs ys
  | [], ks, xs, ys, h => by simp [eqFs] at h; subst h; rfl
  | f :: fs, ks, xs, ys, h => by
    simp only [eqFs] at h
    split at h
    · cases h
    · rename_i hn
      simp only [Option.bind_eq_some_iff, Option.map_eq_some_iff] at h
      obtain ⟨k, hk, r, hr, rfl⟩ := h
      simp only [eqF, if_neg hn, eqL, eqF_L fs r xs ys hr]
      congr 1
      unfold kindN at hk
      split at hk
      · rename_i hu; cases hk; rw [hu]; exact eqV_i
      · rename_i hu; cases hk; rw [hu]; exact eqV_b
      · rename_i hu; cases hk; rw [hu]; exact eqV_s
      · cases hk
theorem eqA_L {t : TypeId} {ks : List (Nat × Nat)} {xs ys : List DV} (h : eqS P t = some ks) : eqA P t xs ys = eqL ks xs ys := by
  unfold eqS at h
  unfold eqA
  split at h
  · rename_i fs hu
    split at h
    · rename_i ho
      rw [hu]
      simp only [if_pos ho]
      exact eqF_L fs.toList ks xs ys h
    · cases h
  · cases h
@[simp] theorem pbin_sq {t : TypeId} {ks : List (Nat × Nat)} {a b : List DV} (h : eqS P t = some ks) : pbin P .eql t (.d (.agg a)) (.d (.agg b)) = (eqL ks a b).map fun r => .d (.bool r) := by simp [pbin, eqA_L h]
@[simp] theorem pbin_sn {t : TypeId} {ks : List (Nat × Nat)} {a b : List DV} (h : eqS P t = some ks) : pbin P .neq t (.d (.agg a)) (.d (.agg b)) = (eqL ks a b).map fun r => .d (.bool (!r)) := by simp [pbin, eqA_L h]

/-! ### Rounds -/
theorem least {p : Nat → Prop} : ∀ n, p n → ∃ m, p m ∧ ∀ k, p k → m ≤ k := by
  intro n
  induction n using Nat.strongRecOn with
  | ind n ih =>
    intro h
    by_cases hk : ∃ k, k < n ∧ p k
    · obtain ⟨k, hlt, hp⟩ := hk
      exact ih k hlt hp
    · exact ⟨n, h, fun k hp => Nat.le_of_not_lt fun hlt => hk ⟨k, hlt, hp⟩⟩
theorem rwc_mono {Q Q' : PS → Prop} (h : ∀ S, Q S → Q' S) : ∀ {l : List CO} {S : PS}, rwc P tr l Q S → rwc P tr l Q' S
  | [], S, hr => h S hr
  | c :: l, S, hr => by
    unfold rwc at hr ⊢
    cases hg : c.g with
    | none =>
      rw [hg] at hr
      exact owp_mono (fun S => rwc_mono h) hr
    | some q =>
      obtain ⟨j, w⟩ := q
      rw [hg] at hr
      simp only at hr ⊢
      split at hr
      · rename_i hc
        rw [if_pos hc]
        exact owp_mono (fun S => rwc_mono h) hr
      · rename_i hc
        rw [if_neg hc]
        exact rwc_mono h hr
theorem pwc_mono {c : CC} : ∀ {Q Q' : Exit → PS → Prop} {S : PS}, (∀ e S, Q e S → Q' e S) → pwc P tr c Q S → pwc P tr c Q' S := by
  induction c with
  | skip => intro Q Q' S h hc; exact h _ _ hc
  | reg l => intro Q Q' S h hc; exact rwc_mono (fun S => h _ S) hc
  | seq a b iha ihb =>
    intro Q Q' S h hc
    refine iha (fun e S' hS => ?_) hc
    cases e with
    | normal => exact ihb h hS
    | _ => exact h _ _ hS
  | cond c a b iha ihb =>
    intro Q Q' S h hc
    simp only [pwc] at hc ⊢
    split at hc
    · rename_i t ht
      split at hc
      · rename_i hh; rw [if_pos hh]; exact iha h hc
      · rename_i hh; rw [if_neg hh]; exact ihb h hc
    · exact hc.elim
  | block id c ih =>
    intro Q Q' S h hc
    refine ih (fun e S' hS => ?_) hc
    cases e with
    | exit j =>
      simp only [blkQ] at hS ⊢
      split at hS
      · rename_i hh; rw [if_pos hh]; exact h _ _ hS
      · rename_i hh; rw [if_neg hh]; exact h _ _ hS
    | _ => exact h _ _ hS
  | loop c ih =>
    intro Q Q' S h hc
    obtain ⟨I, μ, h0, hs⟩ := hc
    refine ⟨I, μ, h0, fun S1 h1 => ih (fun e S' hS => ?_) (hs S1 h1)⟩
    cases e with
    | normal => exact hS
    | _ => exact h _ _ hS
  | exit i => intro Q Q' S h hc; exact h _ _ hc
  | ret => intro Q Q' S h hc; exact h _ _ hc
  | bad => intro Q Q' S h hc; exact hc
theorem lp {α : Type} {c : CC} {Q : Exit → PS → Prop} (I : α → PS → Prop) (μ : α → Nat) (a0 : α) (h0 : I a0 S)
    (hs : ∀ a S, I a S → pwc P tr c (seqQ P (fun S' => ∃ a', I a' S' ∧ μ a' < μ a) Q) S) : pwc P tr (.loop c) Q S := by
  have hm : ∀ (k k' : PS → Prop), (∀ S, k S → k' S) → ∀ S, pwc P tr c (seqQ P k Q) S → pwc P tr c (seqQ P k' Q) S := by
    intro k k' hk S h
    refine pwc_mono (fun e S' hS => ?_) h
    cases e with
    | normal => exact hk _ hS
    | _ => exact hS
  have hmin : ∀ S, (∃ a, I a S) → ∃ m, (∃ a, I a S ∧ μ a = m) ∧ ∀ k, (∃ a, I a S ∧ μ a = k) → m ≤ k := fun S ⟨a, ha⟩ => least (p := fun m => ∃ a, I a S ∧ μ a = m) (μ a) ⟨a, ha, rfl⟩
  have dec : ∀ p : Prop, Decidable p := Classical.propDecidable
  let ν : PS → Nat := fun S => if h : ∃ a, I a S then Classical.choose (hmin S h) else 0
  have hν : ∀ S, (∃ a, I a S) → (∃ a, I a S ∧ μ a = ν S) ∧ ∀ a, I a S → ν S ≤ μ a := by
    intro S h
    have := Classical.choose_spec (hmin S h)
    simp only [ν, dif_pos h]
    exact ⟨this.1, fun a ha => this.2 _ ⟨a, ha, rfl⟩⟩
  refine ⟨fun S => ∃ a, I a S, ν, ⟨a0, h0⟩, fun S1 h1 => ?_⟩
  obtain ⟨⟨a, ha, hμ⟩, _⟩ := hν S1 h1
  refine hm _ _ (fun S' hS' => ?_) S1 (hs a S1 ha)
  obtain ⟨a', ha', hlt⟩ := hS'
  exact ⟨⟨a', ha'⟩, Nat.lt_of_le_of_lt ((hν S' ⟨a', ha'⟩).2 a' ha') (hμ ▸ hlt)⟩

/-! ### What is handed back -/
def finQ (o : Option (List (PV × Bool))) (r : PV) (ro : Nat → Bool) : Prop := ∃ l, o = some l ∧ r = pack l ∧ ∀ j, ro j = true → (l.getD j (.any, false)).2 = true
@[simp] theorem finQ_some {l : List (PV × Bool)} {r : PV} {ro : Nat → Bool} : finQ (some l) r ro = (r = pack l ∧ ∀ j, ro j = true → (l.getD j (.any, false)).2 = true) := by
  simp [finQ]
@[simp] theorem retQ_ret {rs : List ResultVar} {r : PV} {ro : Nat → Bool} : retQ P rs r ro .ret S = finQ (resAll P S rs) r ro := rfl
@[simp] theorem retQ_n {rs : List ResultVar} {r : PV} {ro : Nat → Bool} : retQ P rs r ro .normal S = finQ (resAll P S rs) r ro := rfl
@[simp] theorem retQ_e {rs : List ResultVar} {r : PV} {ro : Nat → Bool} {i : Nat} : retQ P rs r ro (.exit i) S = False := rfl
@[simp] theorem resAll_nil : resAll P S [] = some [] := rfl
@[simp] theorem resAll_cons {x : ResultVar} {rs : List ResultVar} : resAll P S (x :: rs) = (resPV P S x).bind fun x => (resAll P S rs).map (x :: ·) := rfl
def dOnly : PV → Option (PV × Bool) | .d x => some (.d x, false) | _ => none
@[simp] theorem dOnly_d {x : DV} : dOnly (.d x) = some (.d x, false) := rfl
@[simp] theorem resPV_cell {a t : Nat} : resPV P S (.cell a t) = (loadV P S.gen S.box t (S.t a)).bind dOnly := by
  simp only [resPV, loadPV_eq, PS.ev]
  cases loadV P S.gen S.box t (S.t a) with
  | none => rfl
  | some r => cases r <;> rfl
def resV (gen : Nat → Nat) (box : Nat → List PV) (x : PV) (o : Bool) : Option (PV × Bool) :=
  match x with
  | .bsl n g len => if g = gen n ∧ len = (box n).length then (toD (box n)).bind fun ds => if ds.all fun d => (cells d).length == 1 then some (.d (.slice ds), true) else none else none
  | .d x => some (.d x, o)
  | .cptr c => some (.cptr c, false)
  | .fn f [] => some (.fn f [], false)
  | _ => none
@[simp] theorem resV_d {gen : Nat → Nat} {box : Nat → List PV} {x : DV} {o : Bool} : resV gen box (.d x) o = some (.d x, o) := rfl
@[simp] theorem resV_c {gen : Nat → Nat} {box : Nat → List PV} {x : List DV} {o : Bool} : resV gen box (.cptr x) o = some (.cptr x, false) := rfl
@[simp] theorem resV_b {gen : Nat → Nat} {box : Nat → List PV} {n g len : Nat} {o : Bool} : resV gen box (.bsl n g len) o = if g = gen n ∧ len = (box n).length then (toD (box n)).bind fun ds => if ds.all fun d => (cells d).length == 1 then some (.d (.slice ds), true) else none else none := rfl
@[simp] theorem resPV_tmp {t : Nat} : resPV P S (.tmp t) = resV S.gen S.box (S.t t) (S.own (.t t 0)) := by
  simp only [resPV, resV]
  cases S.t t with
  | fn f c => cases c <;> rfl
  | _ => rfl
@[simp] theorem pack_1 {x : PV × Bool} : pack [x] = x.1 := rfl
@[simp] theorem pack_2 {x y : PV × Bool} {l : List (PV × Bool)} : pack (x :: y :: l) = .tup (x.1 :: y.1 :: l.map (·.1)) := rfl
end
end BoEng
