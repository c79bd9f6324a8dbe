/- The rules by which simp reckons a state: states in a first-order form. -/
import Derived.Test.YtoamihggbaaohaaEngT
namespace BoEng
open Go Go.RowKit

section
variable {P : Program} {tr : List Nat} {S : PS} {K : PS → Prop} {Q : PS → Prop} {l : List CO}

@[simp] theorem slotOf_t (s i j : Nat) : slotOf s (.t i j) = (i == s) := rfl
@[simp] theorem slotOf_b (s i j : Nat) : slotOf s (.b i j) = false := rfl
@[simp] theorem set_t (d : Nat) (v : PV) (i : Nat) : (S.set d v).t i = if i = d then v else S.t i := rfl
@[simp] theorem set_box (d : Nat) (v : PV) : (S.set d v).box = S.box := rfl
@[simp] theorem set_gen (d : Nat) (v : PV) : (S.set d v).gen = S.gen := rfl
@[simp] theorem set_fo (d : Nat) (v : PV) : (S.set d v).fo = S.fo := rfl
@[simp] theorem set_ownt (d : Nat) (v : PV) (i j : Nat) : (S.set d v).own (.t i j) = if i = d then false else S.own (.t i j) := rfl
@[simp] theorem set_ownb (d : Nat) (v : PV) (i j : Nat) : (S.set d v).own (.b i j) = S.own (.b i j) := rfl
@[simp] theorem setO_some {d : Nat} {v : PV} : S.setO (some d) v = S.set d v := rfl
@[simp] theorem setO_none {v : PV} : S.setO none v = S := rfl

/-- The places of boxes, as they become. -/
def updC : List Upd → Nat → List PV → List PV | [], _, d => d | u :: l, n, d => if u.n = n then u.c else updC l n d
def updG : List Upd → Nat → Nat → Nat | [], _, d => d | u :: l, n, d => if u.n = n then u.g else updG l n d
def updO : List Upd → Nat → Nat → Bool → Bool | [], _, _, d => d | u :: l, n, k, d => if u.n = n then u.o k else updO l n k d
@[simp] theorem updC_nil {n : Nat} {d : List PV} : updC [] n d = d := rfl
@[simp] theorem updC_cons {u : Upd} {l : List Upd} {n : Nat} {d : List PV} : updC (u :: l) n d = if u.n = n then u.c else updC l n d := rfl
@[simp] theorem updG_nil {n d : Nat} : updG [] n d = d := rfl
@[simp] theorem updG_cons {u : Upd} {l : List Upd} {n d : Nat} : updG (u :: l) n d = if u.n = n then u.g else updG l n d := rfl
@[simp] theorem updO_nil {n k : Nat} {d : Bool} : updO [] n k d = d := rfl
@[simp] theorem updO_cons {u : Upd} {l : List Upd} {n k : Nat} {d : Bool} : updO (u :: l) n k d = if u.n = n then u.o k else updO l n k d := rfl
theorem updC_eq {l : List Upd} {n : Nat} {d : List PV} : updC l n d = match findU l n with | some u => u.c | none => d := by
  induction l with
  | nil => rfl
  | cons u l ih => simp only [updC, findU]; split <;> simp_all
theorem updG_eq {l : List Upd} {n : Nat} {d : Nat} : updG l n d = match findU l n with | some u => u.g | none => d := by
  induction l with
  | nil => rfl
  | cons u l ih => simp only [updG, findU]; split <;> simp_all
theorem updO_eq {l : List Upd} {n k : Nat} {d : Bool} : updO l n k d = match findU l n with | some u => u.o k | none => d := by
  induction l with
  | nil => rfl
  | cons u l ih => simp only [updO, findU]; split <;> simp_all

theorem ap_own (E : Eff) (i j : Nat) : (E.apply S).own (.t i j) = if E.dst = some i then E.ro j else S.own (.t i j) && !E.clr (.t i j) := rfl
theorem ap_ownB (E : Eff) (n k : Nat) : (E.apply S).own (.b n k) = match findU E.bx n with | some u => u.o k | none => S.own (.b n k) && !E.clr (.b n k) := rfl
theorem ap_tS {d : Nat} {r : PV} {ro : Nat → Bool} {clr : Loc → Bool} {bx : List Upd} {i : Nat} : ((⟨some d, r, ro, clr, bx⟩ : Eff).apply S).t i = if i = d then r else S.t i := rfl

/-- A slot is set by a quiet operation. -/
def PS.q (S : PS) (d : Nat) (v : PV) (b : Bool) : PS := (⟨some d, v, fun _ => b, fun _ => false, []⟩ : Eff).apply S
@[simp] theorem q_t {d : Nat} {v : PV} {b : Bool} {i : Nat} : (S.q d v b).t i = if i = d then v else S.t i := rfl
@[simp] theorem q_box {d : Nat} {v : PV} {b : Bool} : (S.q d v b).box = S.box := rfl
@[simp] theorem q_gen {d : Nat} {v : PV} {b : Bool} : (S.q d v b).gen = S.gen := rfl
@[simp] theorem q_fo {d : Nat} {v : PV} {b : Bool} : (S.q d v b).fo = S.fo := rfl
@[simp] theorem q_ownt {d : Nat} {v : PV} {b : Bool} {i j : Nat} : (S.q d v b).own (.t i j) = if i = d then b else S.own (.t i j) := by
  simp only [PS.q, ap_own, Option.some.injEq, Bool.not_false, Bool.and_true, eq_comm (a := d)]
@[simp] theorem q_ownb {d : Nat} {v : PV} {b : Bool} {i j : Nat} : (S.q d v b).own (.b i j) = S.own (.b i j) := by simp [PS.q, ap_ownB]
/-- A slot is moved, with what is one's own. -/
def PS.m (S : PS) (d s : Nat) (v : PV) : PS := (⟨some d, v, fun j => S.own (.t s j), slotOf s, []⟩ : Eff).apply S
@[simp] theorem m_t {d s : Nat} {v : PV} {i : Nat} : (S.m d s v).t i = if i = d then v else S.t i := rfl
@[simp] theorem m_box {d s : Nat} {v : PV} : (S.m d s v).box = S.box := rfl
@[simp] theorem m_gen {d s : Nat} {v : PV} : (S.m d s v).gen = S.gen := rfl
@[simp] theorem m_fo {d s : Nat} {v : PV} : (S.m d s v).fo = S.fo := rfl
@[simp] theorem m_ownt {d s : Nat} {v : PV} {i j : Nat} : (S.m d s v).own (.t i j) = if i = d then S.own (.t s j) else if i = s then false else S.own (.t i j) := by
  simp only [PS.m, ap_own, Option.some.injEq, slotOf_t, eq_comm (a := d)]
  by_cases h : i = d
  · simp [h]
  · by_cases h2 : i = s <;> simp [h, h2]
@[simp] theorem m_ownb {d s : Nat} {v : PV} {i j : Nat} : (S.m d s v).own (.b i j) = S.own (.b i j) := by simp [PS.m, ap_ownB]
/-- What is appended. -/
def PS.ap (S : PS) (d s : Nat) (xs : List DV) : PS := (⟨some d, .d (.slice xs), fun j => j == 0, slotOf s, []⟩ : Eff).apply S
@[simp] theorem ap_t {d s : Nat} {xs : List DV} {i : Nat} : (S.ap d s xs).t i = if i = d then .d (.slice xs) else S.t i := rfl
@[simp] theorem ap_box {d s : Nat} {xs : List DV} : (S.ap d s xs).box = S.box := rfl
@[simp] theorem ap_gen {d s : Nat} {xs : List DV} : (S.ap d s xs).gen = S.gen := rfl
@[simp] theorem ap_fo {d s : Nat} {xs : List DV} : (S.ap d s xs).fo = S.fo := rfl
@[simp] theorem ap_ownt {d s : Nat} {xs : List DV} {i j : Nat} : (S.ap d s xs).own (.t i j) = if i = d then j == 0 else if i = s then false else S.own (.t i j) := by
  simp only [PS.ap, ap_own, Option.some.injEq, slotOf_t, eq_comm (a := d)]
  by_cases h : i = d
  · simp [h]
  · by_cases h2 : i = s <;> simp [h, h2]
@[simp] theorem ap_ownb {d s : Nat} {xs : List DV} {i j : Nat} : (S.ap d s xs).own (.b i j) = S.own (.b i j) := by simp [PS.ap, ap_ownB]
/-- What is taken out of a box's cell. -/
def PS.lt (S : PS) (d : Nat) (v : PV) (n o : Nat) : PS := (⟨some d, v, fun j => j == 0 && S.own (.b n o), fun l => l == .b n o, []⟩ : Eff).apply S
@[simp] theorem lt_t {d n o : Nat} {v : PV} {i : Nat} : (S.lt d v n o).t i = if i = d then v else S.t i := rfl
@[simp] theorem lt_box {d n o : Nat} {v : PV} : (S.lt d v n o).box = S.box := rfl
@[simp] theorem lt_gen {d n o : Nat} {v : PV} : (S.lt d v n o).gen = S.gen := rfl
@[simp] theorem lt_fo {d n o : Nat} {v : PV} : (S.lt d v n o).fo = S.fo := rfl
@[simp] theorem lt_ownt {d n o : Nat} {v : PV} {i j : Nat} : (S.lt d v n o).own (.t i j) = if i = d then j == 0 && S.own (.b n o) else S.own (.t i j) := by
  have : (Loc.t i j == Loc.b n o) = false := beq_eq_false_iff_ne.2 (by simp)
  simp only [PS.lt, ap_own, Option.some.injEq, eq_comm (a := d), this, Bool.not_false, Bool.and_true]
@[simp] theorem lt_ownb {d n o : Nat} {v : PV} {i j : Nat} : (S.lt d v n o).own (.b i j) = if i = n ∧ j = o then false else S.own (.b i j) := by
  simp only [PS.lt, ap_ownB, findU_nil]
  by_cases h : i = n ∧ j = o
  · simp [h.1, h.2]
  · rw [if_neg h]
    have : (Loc.b i j == Loc.b n o) = false := by simpa using h
    simp [this]
/-- One of several results. -/
def PS.ex (S : PS) (d : Nat) (v : PV) (s k : Nat) : PS := (⟨some d, v, fun j => j == 0 && S.own (.t s k), fun l => l == .t s k, []⟩ : Eff).apply S
@[simp] theorem ex_t {d s k : Nat} {v : PV} {i : Nat} : (S.ex d v s k).t i = if i = d then v else S.t i := rfl
@[simp] theorem ex_box {d s k : Nat} {v : PV} : (S.ex d v s k).box = S.box := rfl
@[simp] theorem ex_gen {d s k : Nat} {v : PV} : (S.ex d v s k).gen = S.gen := rfl
@[simp] theorem ex_fo {d s k : Nat} {v : PV} : (S.ex d v s k).fo = S.fo := rfl
@[simp] theorem ex_ownt {d s k : Nat} {v : PV} {i j : Nat} : (S.ex d v s k).own (.t i j) = if i = d then j == 0 && S.own (.t s k) else if i = s ∧ j = k then false else S.own (.t i j) := by
  simp only [PS.ex, ap_own, Option.some.injEq, eq_comm (a := d)]
  by_cases h : i = d
  · simp [h]
  · by_cases h2 : i = s ∧ j = k
    · rw [if_neg h, if_neg h, if_pos h2]
      simp [h2.1, h2.2]
    · rw [if_neg h, if_neg h, if_neg h2]
      have : (Loc.t i j == Loc.t s k) = false := by simpa using h2
      simp [this]
@[simp] theorem ex_ownb {d s k : Nat} {v : PV} {i j : Nat} : (S.ex d v s k).own (.b i j) = S.own (.b i j) := by
  have : (Loc.b i j == Loc.t s k) = false := beq_eq_false_iff_ne.2 (by simp)
  simp [PS.ex, ap_ownB, this]
/-- A new box, and its place in a slot. -/
def PS.nb (S : PS) (d : Nat) (v : PV) (g : Nat) (c : List PV) (z : Nat → Bool) : PS := (⟨some d, v, fun _ => false, fun _ => false, [⟨S.fo + d, g, c, z⟩]⟩ : Eff).apply S
@[simp] theorem nb_t {d g : Nat} {v : PV} {c : List PV} {z : Nat → Bool} {i : Nat} : (S.nb d v g c z).t i = if i = d then v else S.t i := rfl
@[simp] theorem nb_box {d g : Nat} {v : PV} {c : List PV} {z : Nat → Bool} {m : Nat} : (S.nb d v g c z).box m = if m = S.fo + d then c else S.box m := by
  simp only [PS.nb, Eff.apply, findU_one]; split <;> rename_i h <;> split at h <;> simp_all [eq_comm]
@[simp] theorem nb_gen {d g : Nat} {v : PV} {c : List PV} {z : Nat → Bool} {m : Nat} : (S.nb d v g c z).gen m = if m = S.fo + d then g else S.gen m := by
  simp only [PS.nb, Eff.apply, findU_one]; split <;> rename_i h <;> split at h <;> simp_all [eq_comm]
@[simp] theorem nb_fo {d g : Nat} {v : PV} {c : List PV} {z : Nat → Bool} : (S.nb d v g c z).fo = S.fo := rfl
@[simp] theorem nb_ownt {d g : Nat} {v : PV} {c : List PV} {z : Nat → Bool} {i j : Nat} : (S.nb d v g c z).own (.t i j) = if i = d then false else S.own (.t i j) := by
  simp only [PS.nb, ap_own, Option.some.injEq, Bool.not_false, Bool.and_true, eq_comm (a := d)]
@[simp] theorem nb_ownb {d g : Nat} {v : PV} {c : List PV} {z : Nat → Bool} {m k : Nat} : (S.nb d v g c z).own (.b m k) = if m = S.fo + d then z k else S.own (.b m k) := by
  simp only [PS.nb, ap_ownB, findU_one, Bool.not_false, Bool.and_true]; split <;> rename_i h <;> split at h <;> simp_all [eq_comm]
/-- A store. -/
@[simp] theorem isSl_s {xs : List DV} : isSl (.d (.slice xs)) = true := rfl
@[simp] theorem isSl_int {k : IntKind} {n : Int} : isSl (.d (.int k n)) = false := rfl
@[simp] theorem isSl_bool {n : Bool} : isSl (.d (.bool n)) = false := rfl
@[simp] theorem isSl_str {n : List UInt8} : isSl (.d (.str n)) = false := rfl
@[simp] theorem isSl_agg {n : List DV} : isSl (.d (.agg n)) = false := rfl
@[simp] theorem isSl_bsl {n g l z : Nat} {a : Bool} : isSl (.bsl n g l z a) = false := rfl
@[simp] theorem isSl_pa {n : List PV} : isSl (.pa n) = false := rfl
def stoOwn (S : PS) (v : Operand) (n : Nat) : Bool := match v with | .tmp s => n == 1 && S.own (.t s 0) && isSl (S.t s) | .const c => isNilV c | _ => false
def stoClr (v : Operand) : Loc → Bool := match v with | .tmp s => slotOf s | _ => fun _ => false
@[simp] theorem stoOwn_t {s n : Nat} : stoOwn S (.tmp s) n = (n == 1 && S.own (.t s 0) && isSl (S.t s)) := rfl
@[simp] theorem stoOwn_c {c : Value} {n : Nat} : stoOwn S (.const c) n = isNilV c := rfl
@[simp] theorem stoClr_t {s : Nat} : stoClr (.tmp s) = slotOf s := rfl
@[simp] theorem stoClr_c {c : Value} : stoClr (.const c) = fun _ => false := rfl
@[simp] theorem stoClr_b {v : Operand} {m k : Nat} : stoClr v (.b m k) = false := by cases v <;> rfl
def PS.st (S : PS) (v : Operand) (n g o len : Nat) (c : List PV) : PS := (⟨none, .undef, fun _ => false, stoClr v, [⟨n, g, c, fun k => if o ≤ k ∧ k < o + len then stoOwn S v len else S.own (.b n k)⟩]⟩ : Eff).apply S
@[simp] theorem st_t {v : Operand} {n g o len : Nat} {c : List PV} {i : Nat} : (S.st v n g o len c).t i = S.t i := rfl
@[simp] theorem st_box {v : Operand} {n g o len : Nat} {c : List PV} {m : Nat} : (S.st v n g o len c).box m = if m = n then c else S.box m := by
  simp only [PS.st, Eff.apply, findU_one]; split <;> rename_i h <;> split at h <;> simp_all [eq_comm]
@[simp] theorem st_gen {v : Operand} {n g o len : Nat} {c : List PV} {m : Nat} : (S.st v n g o len c).gen m = if m = n then g else S.gen m := by
  simp only [PS.st, Eff.apply, findU_one]; split <;> rename_i h <;> split at h <;> simp_all [eq_comm]
@[simp] theorem st_fo {v : Operand} {n g o len : Nat} {c : List PV} : (S.st v n g o len c).fo = S.fo := rfl
@[simp] theorem st_ownt {v : Operand} {n g o len : Nat} {c : List PV} {i j : Nat} : (S.st v n g o len c).own (.t i j) = (S.own (.t i j) && !stoClr v (.t i j)) := rfl
@[simp] theorem st_ownb {v : Operand} {n g o len : Nat} {c : List PV} {m k : Nat} : (S.st v n g o len c).own (.b m k) = if m = n then (if o ≤ k ∧ k < o + len then stoOwn S v len else S.own (.b n k)) else S.own (.b m k) := by
  simp only [PS.st, ap_ownB, findU_one, stoClr_b, Bool.not_false, Bool.and_true]
  by_cases h : m = n
  · subst h; simp
  · have h' : ¬ n = m := fun e => h e.symm
    simp [h, h']
/-- An append that makes a box. -/
def PS.nx (S : PS) (d s : Nat) (v : PV) (g : Nat) (c : List PV) : PS := (⟨some d, v, fun _ => false, slotOf s, [⟨S.fo + d, g, c, fun _ => false⟩]⟩ : Eff).apply S
@[simp] theorem nx_t {d s g : Nat} {v : PV} {c : List PV} {i : Nat} : (S.nx d s v g c).t i = if i = d then v else S.t i := rfl
@[simp] theorem nx_box {d s g : Nat} {v : PV} {c : List PV} {m : Nat} : (S.nx d s v g c).box m = if m = S.fo + d then c else S.box m := by
  simp only [PS.nx, Eff.apply, findU_one]; split <;> rename_i h <;> split at h <;> simp_all [eq_comm]
@[simp] theorem nx_gen {d s g : Nat} {v : PV} {c : List PV} {m : Nat} : (S.nx d s v g c).gen m = if m = S.fo + d then g else S.gen m := by
  simp only [PS.nx, Eff.apply, findU_one]; split <;> rename_i h <;> split at h <;> simp_all [eq_comm]
@[simp] theorem nx_fo {d s g : Nat} {v : PV} {c : List PV} : (S.nx d s v g c).fo = S.fo := rfl
@[simp] theorem nx_ownt {d s g : Nat} {v : PV} {c : List PV} {i j : Nat} : (S.nx d s v g c).own (.t i j) = if i = d then false else if i = s then false else S.own (.t i j) := by
  simp only [PS.nx, ap_own, Option.some.injEq, slotOf_t, eq_comm (a := d)]
  by_cases h : i = d
  · simp [h]
  · by_cases h2 : i = s <;> simp [h, h2]
@[simp] theorem nx_ownb {d s g : Nat} {v : PV} {c : List PV} {m k : Nat} : (S.nx d s v g c).own (.b m k) = if m = S.fo + d then false else S.own (.b m k) := by
  simp only [PS.nx, ap_ownB, findU_one, slotOf_b, Bool.not_false, Bool.and_true]; split <;> rename_i h <;> split at h <;> simp_all [eq_comm]
/-- An append that makes a box longer. -/
def PS.gw (S : PS) (d n : Nat) (v : PV) (g : Nat) (c : List PV) : PS := (⟨some d, v, fun _ => false, fun _ => false, [⟨n, g, c, fun k => S.own (.b n k)⟩]⟩ : Eff).apply S
@[simp] theorem gw_t {d n g : Nat} {v : PV} {c : List PV} {i : Nat} : (S.gw d n v g c).t i = if i = d then v else S.t i := rfl
@[simp] theorem gw_box {d n g : Nat} {v : PV} {c : List PV} {m : Nat} : (S.gw d n v g c).box m = if m = n then c else S.box m := by
  simp only [PS.gw, Eff.apply, findU_one]; split <;> rename_i h <;> split at h <;> simp_all [eq_comm]
@[simp] theorem gw_gen {d n g : Nat} {v : PV} {c : List PV} {m : Nat} : (S.gw d n v g c).gen m = if m = n then g else S.gen m := by
  simp only [PS.gw, Eff.apply, findU_one]; split <;> rename_i h <;> split at h <;> simp_all [eq_comm]
@[simp] theorem gw_fo {d n g : Nat} {v : PV} {c : List PV} : (S.gw d n v g c).fo = S.fo := rfl
@[simp] theorem gw_ownt {d n g : Nat} {v : PV} {c : List PV} {i j : Nat} : (S.gw d n v g c).own (.t i j) = if i = d then false else S.own (.t i j) := by
  simp only [PS.gw, ap_own, Option.some.injEq, Bool.not_false, Bool.and_true, eq_comm (a := d)]
@[simp] theorem gw_ownb {d n g : Nat} {v : PV} {c : List PV} {m k : Nat} : (S.gw d n v g c).own (.b m k) = S.own (.b m k) := by
  simp only [PS.gw, ap_ownB, findU_one, Bool.not_false, Bool.and_true]
  by_cases h : n = m
  · subst h; simp
  · simp [h]
/-- A struct whose first cell may be one's own, and its nil cells. -/
def PS.bo (S : PS) (d s : Nat) (v : PV) (nl : Nat → Bool) : PS := (⟨some d, v, fun j => (j == 0 && S.own (.t s 0)) || nl j, slotOf s, []⟩ : Eff).apply S
@[simp] theorem bo_t {d s : Nat} {v : PV} {nl : Nat → Bool} {i : Nat} : (S.bo d s v nl).t i = if i = d then v else S.t i := rfl
@[simp] theorem bo_box {d s : Nat} {v : PV} {nl : Nat → Bool} : (S.bo d s v nl).box = S.box := rfl
@[simp] theorem bo_gen {d s : Nat} {v : PV} {nl : Nat → Bool} : (S.bo d s v nl).gen = S.gen := rfl
@[simp] theorem bo_fo {d s : Nat} {v : PV} {nl : Nat → Bool} : (S.bo d s v nl).fo = S.fo := rfl
@[simp] theorem bo_ownt {d s : Nat} {v : PV} {nl : Nat → Bool} {i j : Nat} : (S.bo d s v nl).own (.t i j) = if i = d then ((j == 0 && S.own (.t s 0)) || nl j) else if i = s then false else S.own (.t i j) := by
  simp only [PS.bo, ap_own, Option.some.injEq, slotOf_t, eq_comm (a := d)]
  by_cases h : i = d
  · simp [h]
  · by_cases h2 : i = s <;> simp [h, h2]
@[simp] theorem bo_ownb {d s : Nat} {v : PV} {nl : Nat → Bool} {i j : Nat} : (S.bo d s v nl).own (.b i j) = S.own (.b i j) := by simp [PS.bo, ap_ownB]
/-- A struct whose nil cells are one's own. -/
def PS.bn (S : PS) (d : Nat) (v : PV) (nl : Nat → Bool) : PS := (⟨some d, v, nl, fun _ => false, []⟩ : Eff).apply S
@[simp] theorem bn_t {d : Nat} {v : PV} {nl : Nat → Bool} {i : Nat} : (S.bn d v nl).t i = if i = d then v else S.t i := rfl
@[simp] theorem bn_box {d : Nat} {v : PV} {nl : Nat → Bool} : (S.bn d v nl).box = S.box := rfl
@[simp] theorem bn_gen {d : Nat} {v : PV} {nl : Nat → Bool} : (S.bn d v nl).gen = S.gen := rfl
@[simp] theorem bn_fo {d : Nat} {v : PV} {nl : Nat → Bool} : (S.bn d v nl).fo = S.fo := rfl
@[simp] theorem bn_ownt {d : Nat} {v : PV} {nl : Nat → Bool} {i j : Nat} : (S.bn d v nl).own (.t i j) = if i = d then nl j else S.own (.t i j) := by
  simp only [PS.bn, ap_own, Option.some.injEq, Bool.not_false, Bool.and_true, eq_comm (a := d)]
@[simp] theorem bn_ownb {d : Nat} {v : PV} {nl : Nat → Bool} {i j : Nat} : (S.bn d v nl).own (.b i j) = S.own (.b i j) := by simp [PS.bn, ap_ownB]
/-- A slice of one element, as a box. -/
def PS.n1 (S : PS) (d s : Nat) (v : PV) (g : Nat) (c : List PV) : PS := (⟨some d, v, fun _ => false, slotOf s, [⟨S.fo + d, g, c, fun k => decide (k < c.length) && S.own (.t s k)⟩]⟩ : Eff).apply S
@[simp] theorem n1_t {d s g : Nat} {v : PV} {c : List PV} {i : Nat} : (S.n1 d s v g c).t i = if i = d then v else S.t i := rfl
@[simp] theorem n1_box {d s g : Nat} {v : PV} {c : List PV} {m : Nat} : (S.n1 d s v g c).box m = if m = S.fo + d then c else S.box m := by
  simp only [PS.n1, Eff.apply, findU_one]; split <;> rename_i h <;> split at h <;> simp_all [eq_comm]
@[simp] theorem n1_gen {d s g : Nat} {v : PV} {c : List PV} {m : Nat} : (S.n1 d s v g c).gen m = if m = S.fo + d then g else S.gen m := by
  simp only [PS.n1, Eff.apply, findU_one]; split <;> rename_i h <;> split at h <;> simp_all [eq_comm]
@[simp] theorem n1_fo {d s g : Nat} {v : PV} {c : List PV} : (S.n1 d s v g c).fo = S.fo := rfl
@[simp] theorem n1_ownt {d s g : Nat} {v : PV} {c : List PV} {i j : Nat} : (S.n1 d s v g c).own (.t i j) = if i = d then false else if i = s then false else S.own (.t i j) := by
  simp only [PS.n1, ap_own, Option.some.injEq, slotOf_t, eq_comm (a := d)]
  by_cases h : i = d
  · simp [h]
  · by_cases h2 : i = s <;> simp [h, h2]
@[simp] theorem n1_ownb {d s g : Nat} {v : PV} {c : List PV} {m k : Nat} : (S.n1 d s v g c).own (.b m k) = if m = S.fo + d then decide (k < c.length) && S.own (.t s k) else S.own (.b m k) := by
  simp only [PS.n1, ap_ownB, findU_one, slotOf_b, Bool.not_false, Bool.and_true]
  by_cases h : m = S.fo + d
  · simp [h]
  · have h' : ¬ S.fo + d = m := fun e => h e.symm
    simp [h, h']
/-- The cells of a box that was put behind another one's are one's own there. -/
def PS.give (S : PS) (u m L : Nat) : PS := { S with own := fun l => match l with | .t i j => S.own (.t i j) | .b n k => if n = u then (if k < L then S.own (.b u k) else S.own (.b m (k - L))) else if n = m then false else S.own (.b n k) }
@[simp] theorem give_t {u m L i : Nat} : (S.give u m L).t i = S.t i := rfl
@[simp] theorem give_box {u m L : Nat} : (S.give u m L).box = S.box := rfl
@[simp] theorem give_gen {u m L : Nat} : (S.give u m L).gen = S.gen := rfl
@[simp] theorem give_fo {u m L : Nat} : (S.give u m L).fo = S.fo := rfl
@[simp] theorem give_ownt {u m L i j : Nat} : (S.give u m L).own (.t i j) = S.own (.t i j) := rfl
@[simp] theorem give_ownb {u m L n k : Nat} : (S.give u m L).own (.b n k) = if n = u then (if k < L then S.own (.b u k) else S.own (.b m (k - L))) else if n = m then false else S.own (.b n k) := rfl
/-- A box is let go. -/
def PS.kl (S : PS) (d : Nat) (v : PV) (n : Nat) : PS := (⟨some d, v, fun _ => false, fun _ => false, [kill S n]⟩ : Eff).apply S
@[simp] theorem kl_t {d n : Nat} {v : PV} {i : Nat} : (S.kl d v n).t i = if i = d then v else S.t i := rfl
@[simp] theorem kl_box {d n : Nat} {v : PV} {m : Nat} : (S.kl d v n).box m = if m = n then [] else S.box m := by
  simp only [PS.kl, Eff.apply, findU_one, kill]; split <;> rename_i h <;> split at h <;> simp_all [eq_comm]
@[simp] theorem kl_gen {d n : Nat} {v : PV} {m : Nat} : (S.kl d v n).gen m = if m = n then S.gen n + 1 else S.gen m := by
  simp only [PS.kl, Eff.apply, findU_one, kill]; split <;> rename_i h <;> split at h <;> simp_all [eq_comm]
@[simp] theorem kl_fo {d n : Nat} {v : PV} : (S.kl d v n).fo = S.fo := rfl
@[simp] theorem kl_ownt {d n : Nat} {v : PV} {i j : Nat} : (S.kl d v n).own (.t i j) = if i = d then false else S.own (.t i j) := by
  simp only [PS.kl, ap_own, Option.some.injEq, Bool.not_false, Bool.and_true, eq_comm (a := d)]
@[simp] theorem kl_ownb {d n : Nat} {v : PV} {m k : Nat} : (S.kl d v n).own (.b m k) = if m = n then false else S.own (.b m k) := by
  simp only [PS.kl, ap_ownB, findU_one, kill, Bool.not_false, Bool.and_true]; split <;> rename_i h <;> split at h <;> simp_all [eq_comm]
/-- A call. -/
def PS.cl (S : PS) (d : Nat) (r : PV) (ro : Nat → Bool) : PS := (⟨some d, r, ro, fun _ => false, []⟩ : Eff).apply S
@[simp] theorem cl_t {d : Nat} {r : PV} {ro : Nat → Bool} {i : Nat} : (S.cl d r ro).t i = if i = d then r else S.t i := rfl
@[simp] theorem cl_box {d : Nat} {r : PV} {ro : Nat → Bool} : (S.cl d r ro).box = S.box := rfl
@[simp] theorem cl_gen {d : Nat} {r : PV} {ro : Nat → Bool} : (S.cl d r ro).gen = S.gen := rfl
@[simp] theorem cl_fo {d : Nat} {r : PV} {ro : Nat → Bool} : (S.cl d r ro).fo = S.fo := rfl
@[simp] theorem cl_ownt {d : Nat} {r : PV} {ro : Nat → Bool} {i j : Nat} : (S.cl d r ro).own (.t i j) = if i = d then ro j else S.own (.t i j) := by
  simp only [PS.cl, ap_own, Option.some.injEq, Bool.not_false, Bool.and_true, eq_comm (a := d)]
@[simp] theorem cl_ownb {d : Nat} {r : PV} {ro : Nat → Bool} {n k : Nat} : (S.cl d r ro).own (.b n k) = S.own (.b n k) := by simp [PS.cl, ap_ownB]
/-- A call that was handed boxes. -/
def PS.cb (S : PS) (d : Option Nat) (r : PV) (ro : Nat → Bool) (post : List Upd) : PS := (⟨d, r, ro, fun _ => false, post⟩ : Eff).apply S
@[simp] theorem cb_tS {d : Nat} {r : PV} {ro : Nat → Bool} {post : List Upd} {i : Nat} : (S.cb (some d) r ro post).t i = if i = d then r else S.t i := rfl
@[simp] theorem cb_tN {r : PV} {ro : Nat → Bool} {post : List Upd} {i : Nat} : (S.cb none r ro post).t i = S.t i := rfl
@[simp] theorem cb_box {d : Option Nat} {r : PV} {ro : Nat → Bool} {post : List Upd} {m : Nat} : (S.cb d r ro post).box m = updC post m (S.box m) := updC_eq.symm
@[simp] theorem cb_gen {d : Option Nat} {r : PV} {ro : Nat → Bool} {post : List Upd} {m : Nat} : (S.cb d r ro post).gen m = updG post m (S.gen m) := updG_eq.symm
@[simp] theorem cb_fo {d : Option Nat} {r : PV} {ro : Nat → Bool} {post : List Upd} : (S.cb d r ro post).fo = S.fo := rfl
@[simp] theorem cb_owntS {d : Nat} {r : PV} {ro : Nat → Bool} {post : List Upd} {i j : Nat} : (S.cb (some d) r ro post).own (.t i j) = if i = d then ro j else S.own (.t i j) := by
  simp only [PS.cb, ap_own, Option.some.injEq, Bool.not_false, Bool.and_true, eq_comm (a := d)]
@[simp] theorem cb_owntN {r : PV} {ro : Nat → Bool} {post : List Upd} {i j : Nat} : (S.cb none r ro post).own (.t i j) = S.own (.t i j) := by simp [PS.cb, ap_own]
@[simp] theorem cb_ownb {d : Option Nat} {r : PV} {ro : Nat → Bool} {post : List Upd} {m k : Nat} : (S.cb d r ro post).own (.b m k) = updO post m k (S.own (.b m k)) := by
  rw [updO_eq]; simp only [PS.cb, ap_ownB, Bool.not_false, Bool.and_true]

/-! ### Codes -/
@[simp] theorem rwc_nil : rwc P tr [] Q S = Q S := rfl
@[simp] theorem rwc_none {d : Option Nat} {op : Op} : rwc P tr (⟨none, d, op⟩ :: l) Q S = ow P tr d op S (rwc P tr l Q) := rfl
/-- A guard that is not yet told: nothing behind it is looked at. -/
inductive Sel (P : Program) (tr : List Nat) (p : PV) (w : Bool) (d : Option Nat) (op : Op) (l : List CO) (Q : PS → Prop) (S : PS) : Prop
  | t (h : gdv p w = true) (k : ow P tr d op S (rwc P tr l Q))
  | f (h : ¬ gdv p w = true) (k : rwc P tr l Q (S.setO d .undef))
theorem sel_T {p : PV} {w : Bool} {d : Option Nat} {op : Op} (h : gdv p w = true) : Sel P tr p w d op l Q S = ow P tr d op S (rwc P tr l Q) :=
  propext ⟨fun x => by cases x with | t _ k => exact k | f h' _ => exact absurd h h', fun k => .t h k⟩
theorem sel_F {p : PV} {w : Bool} {d : Option Nat} {op : Op} (h : ¬ gdv p w = true) : Sel P tr p w d op l Q S = rwc P tr l Q (S.setO d .undef) :=
  propext ⟨fun x => by cases x with | f _ k => exact k | t h' _ => exact absurd h' h, fun k => .f h k⟩
@[simp] theorem sel_tt {d : Option Nat} {op : Op} : Sel P tr (.d (.bool true)) true d op l Q S = ow P tr d op S (rwc P tr l Q) := sel_T rfl
@[simp] theorem sel_ff {d : Option Nat} {op : Op} : Sel P tr (.d (.bool false)) false d op l Q S = ow P tr d op S (rwc P tr l Q) := sel_T rfl
@[simp] theorem sel_tf {d : Option Nat} {op : Op} : Sel P tr (.d (.bool true)) false d op l Q S = rwc P tr l Q (S.setO d .undef) := sel_F (by simp [gdv])
@[simp] theorem sel_ft {d : Option Nat} {op : Op} : Sel P tr (.d (.bool false)) true d op l Q S = rwc P tr l Q (S.setO d .undef) := sel_F (by simp [gdv])
@[simp] theorem sel_u {w : Bool} {d : Option Nat} {op : Op} : Sel P tr .undef w d op l Q S = rwc P tr l Q (S.setO d .undef) := sel_F (by simp [gdv])
theorem sel_by {c w : Bool} {d : Option Nat} {op : Op} (h1 : c = true → Sel P tr (.d (.bool true)) w d op l Q S) (h2 : c = false → Sel P tr (.d (.bool false)) w d op l Q S) : Sel P tr (.d (.bool c)) w d op l Q S := by
  cases c
  · exact h2 rfl
  · exact h1 rfl
@[simp] theorem c_some {j : Nat} {w : Bool} {d : Option Nat} {op : Op} : rwc P tr (⟨some (j, w), d, op⟩ :: l) Q S = Sel P tr (S.t j) w d op l Q S := by
  by_cases h : gdv (S.t j) w = true
  · rw [sel_T h]; simp only [rwc, if_pos h]
  · rw [sel_F h]; simp only [rwc, if_neg h]
@[simp] theorem gdv_bool {b w : Bool} : gdv (.d (.bool b)) w = (b == w) := rfl
@[simp] theorem gdv_undef {w : Bool} : gdv .undef w = false := rfl
@[simp] theorem ev_tmp {t : Nat} : S.ev (.tmp t) = S.t t := rfl
@[simp] theorem ev_const {v : Value} : S.ev (.const v) = ofConst v := rfl
@[simp] theorem ev_func {f : Nat} : S.ev (.func f) = .fn f [] := rfl
@[simp] theorem ofConst_int {k : IntKind} {n : Int} : ofConst (.int k n) = .d (.int k n) := rfl
@[simp] theorem ofConst_bool {b : Bool} : ofConst (.bool b) = .d (.bool b) := rfl
@[simp] theorem ofConst_str {l : List UInt8} : ofConst (.string ⟨⟨l⟩⟩) = .d (.str l) := rfl
@[simp] theorem ofConst_nils : ofConst (.slice none 0 0) = .d (.slice []) := rfl
@[simp] theorem ofConst_nilp : ofConst (.pointer none) = .d (.opq (.pointer none)) := rfl
@[simp] theorem ofConst_nilf : ofConst .nilFunc = .d (.opq .nilFunc) := rfl
@[simp] theorem seqQ_n {k : PS → Prop} {Q : Exit → PS → Prop} : seqQ P k Q .normal S = k S := rfl
@[simp] theorem seqQ_r {k : PS → Prop} {Q : Exit → PS → Prop} : seqQ P k Q .ret S = Q .ret S := rfl
@[simp] theorem seqQ_e {k : PS → Prop} {Q : Exit → PS → Prop} {i : Nat} : seqQ P k Q (.exit i) S = Q (.exit i) S := rfl
@[simp] theorem blkQ_n {j : Nat} {Q : Exit → PS → Prop} : blkQ j Q .normal S = Q .normal S := rfl
@[simp] theorem blkQ_r {j : Nat} {Q : Exit → PS → Prop} : blkQ j Q .ret S = Q .ret S := rfl
@[simp] theorem blkQ_e {i j : Nat} {Q : Exit → PS → Prop} : blkQ j Q (.exit i) S = if i = j then Q .normal S else Q (.exit i) S := rfl
@[simp] theorem pwc_skip {Q : Exit → PS → Prop} : pwc P tr .skip Q S = Q .normal S := rfl
@[simp] theorem pwc_reg {Q : Exit → PS → Prop} : pwc P tr (.reg l) Q S = rwc P tr l (Q .normal) S := rfl
@[simp] theorem pwc_seq {a b : CC} {Q : Exit → PS → Prop} : pwc P tr (.seq a b) Q S = pwc P tr a (seqQ P (pwc P tr b Q) Q) S := rfl
@[simp] theorem pwc_block {i : Nat} {c : CC} {Q : Exit → PS → Prop} : pwc P tr (.block i c) Q S = pwc P tr c (blkQ i Q) S := rfl
@[simp] theorem pwc_exit {i : Nat} {Q : Exit → PS → Prop} : pwc P tr (.exit i) Q S = Q (.exit i) S := rfl
@[simp] theorem pwc_ret {Q : Exit → PS → Prop} : pwc P tr .ret Q S = Q .ret S := rfl
/-- A branch that is not yet told. -/
inductive Cnd (P : Program) (tr : List Nat) (p : PV) (a b : CC) (Q : Exit → PS → Prop) (S : PS) : Prop
  | t (h : p = .d (.bool true)) (k : pwc P tr a Q S)
  | f (h : p = .d (.bool false)) (k : pwc P tr b Q S)
@[simp] theorem cnd_t {a b : CC} {Q : Exit → PS → Prop} : Cnd P tr (.d (.bool true)) a b Q S = pwc P tr a Q S :=
  propext ⟨fun x => by cases x with | t _ k => exact k | f h _ => simp at h, fun k => .t rfl k⟩
@[simp] theorem cnd_f {a b : CC} {Q : Exit → PS → Prop} : Cnd P tr (.d (.bool false)) a b Q S = pwc P tr b Q S :=
  propext ⟨fun x => by cases x with | f _ k => exact k | t h _ => simp at h, fun k => .f rfl k⟩
theorem cnd_by {t : Bool} {a b : CC} {Q : Exit → PS → Prop} (h1 : t = true → pwc P tr a Q S) (h2 : t = false → pwc P tr b Q S) : Cnd P tr (.d (.bool t)) a b Q S := by
  cases t
  · exact .f rfl (h2 rfl)
  · exact .t rfl (h1 rfl)
@[simp] theorem c_cond {c : Operand} {a b : CC} {Q : Exit → PS → Prop} : pwc P tr (.cond c a b) Q S = Cnd P tr (S.ev c) a b Q S := by
  simp only [pwc]
  refine propext ⟨fun h => ?_, fun h => ?_⟩
  · split at h
    · rename_i t ht
      rw [ht]
      cases t
      · exact .f rfl h
      · exact .t rfl h
    · exact h.elim
  · cases h with
    | t h k => rw [h]; exact k
    | f h k => rw [h]; exact k

/-- What follows, if there is a state. -/
def onSt (o : Option PS) (K : PS → Prop) : Prop := match o with | some S => K S | none => False
@[simp] theorem onSt_some {K : PS → Prop} : onSt (some S) K = K S := rfl
@[simp] theorem onSt_none {K : PS → Prop} : onSt none K = False := rfl
theorem onSt_if {c : Prop} [Decidable c] {S' : PS} (h : c) (hk : K S') : onSt (if c then some S' else none) K := by
  rw [if_pos h]
  exact hk

/-- What a plain operation comes to. -/
theorem ow_plain {d : Option Nat} {op : Op} (hc : ∀ x a t, op ≠ .call ⟨.value x, a, t⟩) : ow P tr d op S K = onSt ((effF P (d.getD 0 + 1) tr S { dst := d, op := op, type := 0, pos := "", after := #[], guard := none }).map fun E => E.apply S) K := by
  have : ow P tr d op S K = (match effF P (d.getD 0 + 1) tr S { dst := d, op := op, type := 0, pos := "", after := #[], guard := none } with | some E => K (E.apply S) | none => False) := by
    unfold ow owp
    cases op with
    | call c =>
      obtain ⟨cal, a, t⟩ := c
      cases cal with
      | value x => exact absurd rfl (hc x a t)
      | _ => rfl
    | _ => rfl
  rw [this]
  cases effF P (d.getD 0 + 1) tr S { dst := d, op := op, type := 0, pos := "", after := #[], guard := none } <;> rfl
theorem dst1 {d : Nat} {op : Op} : dstOk ((some d).getD 0 + 1) { dst := some d, op := op, type := 0, pos := "", after := #[], guard := none } = true := by simp [dstOk]
theorem dst2 {d : Nat} {op : Op} : dstOk (d + 1) { dst := some d, op := op, type := 0, pos := "", after := #[], guard := none } = true := by simp [dstOk]
theorem dst0 {op : Op} : dstOk ((none : Option Nat).getD 0 + 1) { dst := none, op := op, type := 0, pos := "", after := #[], guard := none } = true := by simp [dstOk]

/-- A slice that is a box, let go. -/
def thawB (gn : Nat) (c : List PV) (g len sz : Nat) (ag : Bool) : Option (List DV) := if g = gn ∧ len * sz ≤ c.length ∧ (ag = false → sz = 1) then (toD (c.take (len * sz))).map (chunk sz ag len) else none
theorem thawed_B {n g len sz : Nat} {ag : Bool} : thawed S n g len sz ag = thawB (S.gen n) (S.box n) g len sz ag := rfl
def klS (S : PS) (d n : Nat) (xs : List DV) : PS := S.kl d (.d (.slice xs)) n
@[simp] theorem klS_eq {d n : Nat} {xs : List DV} : klS S d n xs = S.kl d (.d (.slice xs)) n := rfl
def klA (S : PS) (d : Nat) (x : List DV × List Nat) : Option PS := match x.2 with | [] => some (S.q d (.d (.agg x.1)) false) | [n] => some (S.kl d (.d (.agg x.1)) n) | _ => none
@[simp] theorem klA_0 {d : Nat} {xs : List DV} : klA S d (xs, []) = some (S.q d (.d (.agg xs)) false) := rfl
@[simp] theorem klA_1 {d n : Nat} {xs : List DV} : klA S d (xs, [n]) = some (S.kl d (.d (.agg xs)) n) := rfl
def frzS (S : PS) (d : Nat) (r : PV) : Option PS :=
  match r with
  | .d x => some (S.q d (.d x) false)
  | .bsl n g len sz ag => (thawB (S.gen n) (S.box n) g len sz ag).map (klS S d n)
  | .pa cs => (frzL S cs).bind (klA S d)
  | _ => none
@[simp] theorem frzS_d {d : Nat} {x : DV} : frzS S d (.d x) = some (S.q d (.d x) false) := rfl
@[simp] theorem frzS_b {d n g len sz : Nat} {ag : Bool} : frzS S d (.bsl n g len sz ag) = (thawB (S.gen n) (S.box n) g len sz ag).map (klS S d n) := rfl
@[simp] theorem frzS_p {d : Nat} {cs : List PV} : frzS S d (.pa cs) = (frzL S cs).bind (klA S d) := rfl
theorem frzE_S {d : Nat} {r : PV} {op : Op} : (frzE { dst := some d, op := op, type := 0, pos := "", after := #[], guard := none } S r).map (fun E => E.apply S) = frzS S d r := by
  cases r with
  | d x => rfl
  | bsl n g len sz ag =>
    simp only [frzE, frzV, frzC, frzS, thawed_B]
    cases thawB (S.gen n) (S.box n) g len sz ag <;> rfl
  | pa cs =>
    simp only [frzE, frzV, frzS]
    cases frzL S cs with
    | none => rfl
    | some x =>
      obtain ⟨x, ns⟩ := x
      cases ns with
      | nil => rfl
      | cons n r => cases r <;> rfl
  | _ => rfl

@[simp] theorem o_move {d s : Nat} : ow P tr (some d) (.move (.tmp s)) S K = if d + 20000 ∈ tr then onSt (frzS S d (S.t s)) K else K (if d ∈ tr then S.m d s (S.t s) else S.q d (S.t s) false) := by
  rw [ow_plain (by simp)]
  simp only [effF, csOk, csOp, fpCk, fpOf, Bool.and_self, if_true, effF0, dst1, if_true, isFz, isTr, List.contains_iff_mem]
  by_cases h : d + 20000 ∈ tr
  · rw [if_pos h, if_pos h]
    have := frzE_S (S := S) (d := d) (r := S.t s) (op := .move (.tmp s))
    rw [← this]
    rfl
  · rw [if_neg h, if_neg h]
    by_cases h2 : d ∈ tr
    · have h3 : tr.contains d = true := by simpa using h2
      simp only [mvEff, h3, if_true, Option.map_some, onSt_some, if_pos h2]
      rfl
    · have h3 : tr.contains d = false := by simpa using h2
      simp only [mvEff, h3, Option.map_some, onSt_some, if_neg h2]
      rfl
@[simp] theorem o_moveC {d : Nat} {v : Value} : ow P tr (some d) (.move (.const v)) S K = if d + 20000 ∈ tr then onSt (frzS S d (ofConst v)) K else K (S.q d (ofConst v) (isNilV v)) := by
  rw [ow_plain (by simp)]
  simp only [effF, csOk, csOp, fpCk, fpOf, Bool.and_self, if_true, effF0, dst1, if_true, isFz, List.contains_iff_mem]
  by_cases h : d + 20000 ∈ tr
  · rw [if_pos h, if_pos h]
    have := frzE_S (S := S) (d := d) (r := ofConst v) (op := .move (.const v))
    rw [← this]
    rfl
  · rw [if_neg h, if_neg h]
    rfl
@[simp] theorem o_moveF {d f : Nat} : ow P tr (some d) (.move (.func f)) S K = if d + 20000 ∈ tr then False else K (S.q d (.fn f []) false) := by
  rw [ow_plain (by simp)]
  simp only [effF, csOk, csOp, fpCk, fpOf, Bool.and_self, if_true, effF0, dst1, if_true, isFz, List.contains_iff_mem]
  by_cases h : d + 20000 ∈ tr
  · rw [if_pos h, if_pos h]; rfl
  · rw [if_neg h, if_neg h]; rfl
@[simp] theorem o_assignC {d : Nat} {v : Value} : ow P tr (some d) (.assign (.const v)) S K = K (S.q d (ofConst v) (isNilV v)) := by
  rw [ow_plain (by simp)]; simp only [effF, csOk, csOp, fpCk, fpOf, Bool.and_self, if_true, effF0, dst1, if_true]; rfl
@[simp] theorem o_assign {d s : Nat} : ow P tr (some d) (.assign (.tmp s)) S K = K (S.m d s (S.t s)) := by
  rw [ow_plain (by simp)]; simp only [effF, csOk, csOp, fpCk, fpOf, Bool.and_self, if_true, effF0, dst1, if_true]; rfl

/-- What a quiet operation comes to. -/
def qv (P : Program) (S : PS) (op : Op) : Option (PV × Bool) := effV P S { dst := none, op := op, type := 0, pos := "", after := #[], guard := none }
def PS.q2 (S : PS) (d : Nat) (r : PV × Bool) : PS := S.q d r.1 r.2
@[simp] theorem q2_mk {d : Nat} {r : PV} {b : Bool} : S.q2 d (r, b) = S.q d r b := rfl
def isQ : Op → Bool
  | .pick .. => true
  | .nilCheck .. => true
  | .binOp .. => true
  | .unOp .. => true
  | .fieldAddr .. => true
  | .field .. => true
  | .indexAddr .. => true
  | .index .. => true
  | .slice .. => true
  | .makeFunc .. => true
  | .call ⟨.builtin .len, _, _⟩ => true
  | .call ⟨.builtin .min, _, _⟩ => true
  | .call ⟨.builtin .max, _, _⟩ => true
  | _ => false
/-- An operation at one box alone. -/
def fpG (tr : List Nat) (fo d : Nat) (p : PV) : Prop := match fpT tr d with | some m => atBox (fo + m) p = true ∧ ¬ d ∈ tr ∧ ¬ d + 20000 ∈ tr | none => True
/-- What an operation does at places, told beside whether they are such that nobody writes. -/
def csG (tr : List Nat) (fo d : Nat) (p : PV) : Prop := (if d + 50000 ∈ tr then isCst p = true ∧ ¬ d ∈ tr ∧ ¬ d + 20000 ∈ tr else True) ∧ (if d + 70000 ∈ tr then cmOk tr fo p = true ∧ ¬ d ∈ tr ∧ ¬ d + 20000 ∈ tr else True) ∧ (if d + 90000 ∈ tr then clOk tr fo p = true ∧ ¬ d ∈ tr ∧ ¬ d + 20000 ∈ tr else True) ∧ fpG tr fo d p
theorem ow_cs {d : Nat} {op : Op} {x : Operand} (hc : ∀ x a t, op ≠ .call ⟨.value x, a, t⟩) (hx : csOp op = some x) :
    ow P tr (some d) op S K = (csG tr S.fo d (S.ev x) ∧ onSt ((effF0 P (d + 1) tr S { dst := some d, op := op, type := 0, pos := "", after := #[], guard := none }).map fun E => E.apply S) K) := by
  rw [ow_plain hc]
  simp only [effF]
  have hk : (csOk tr S { dst := some d, op := op, type := 0, pos := "", after := #[], guard := none } && fpCk tr S { dst := some d, op := op, type := 0, pos := "", after := #[], guard := none }) = true ↔ csG tr S.fo d (S.ev x) := by
    have hf : fpCk tr S { dst := some d, op := op, type := 0, pos := "", after := #[], guard := none } = true ↔ fpG tr S.fo d (S.ev x) := by
      have ho : fpOf tr { dst := some d, op := op, type := 0, pos := "", after := #[], guard := none } = (fpT tr d).map fun m => (m, x) := by
        unfold fpOf
        cases op <;> simp [csOp] at hx <;> subst hx <;> rfl
      unfold fpCk fpG
      rw [ho]
      cases fpT tr d with
      | none => simp
      | some m => simp [hx, isTr, isFz]
    rw [Bool.and_eq_true, hf]
    unfold csOk csG isCs isCm isCl isTr isFz
    simp only [hx, Bool.and_eq_true, Bool.or_eq_true, Bool.not_eq_true', List.contains_iff_mem, ← Bool.not_eq_true]
    by_cases h1 : d + 50000 ∈ tr <;> by_cases h2 : d + 70000 ∈ tr <;> by_cases h3 : d + 90000 ∈ tr <;> simp [h1, h2, h3, and_assoc]
  by_cases h : csG tr S.fo d (S.ev x)
  · rw [if_pos (hk.2 h)]
    exact propext ⟨fun h3 => ⟨h, h3⟩, fun h3 => h3.2⟩
  · rw [if_neg (fun e => h (hk.1 e))]
    refine propext ⟨fun h3 => ?_, fun h3 => absurd h3.1 h⟩
    simp [onSt] at h3
theorem o_cs {d : Nat} {op : Op} {x : Operand} (h : isQ op = true) (hx : csOp op = some x) : ow P tr (some d) op S K = (csG tr S.fo d (S.ev x) ∧ onSt ((qv P S op).map (S.q2 d)) K) := by
  have hc : ∀ x a t, op ≠ .call ⟨.value x, a, t⟩ := by
    intro x a t e
    subst e
    simp [isQ] at h
  rw [ow_cs hc hx]
  have h1 : effF0 P (d + 1) tr S { dst := some d, op := op, type := 0, pos := "", after := #[], guard := none } = (qv P S op).map fun r => ⟨some d, r.1, fun _ => r.2, fun _ => false, []⟩ := by
    unfold effF0
    rw [if_pos dst2]
    cases op <;> first | rfl | (simp [csOp] at hx; done) | (simp [isQ] at h; done)
  rw [h1]
  cases qv P S op <;> rfl
theorem o_q {d : Nat} {op : Op} (h : isQ op = true) (hn : csOp op = none) : ow P tr (some d) op S K = onSt ((qv P S op).map (S.q2 d)) K := by
  have hc : ∀ x a t, op ≠ .call ⟨.value x, a, t⟩ := by
    intro x a t e
    subst e
    simp [isQ] at h
  rw [ow_plain hc]
  have h1 : effF P ((some d).getD 0 + 1) tr S { dst := some d, op := op, type := 0, pos := "", after := #[], guard := none } = (qv P S op).map fun r => ⟨some d, r.1, fun _ => r.2, fun _ => false, []⟩ := by
    have hfp : fpCk tr S { dst := some d, op := op, type := 0, pos := "", after := #[], guard := none } = true := by
      unfold fpCk
      have : fpOf tr { dst := some d, op := op, type := 0, pos := "", after := #[], guard := none } = none := by
        unfold fpOf
        cases op <;> first | rfl | (simp [csOp] at hn; done) | (simp [isQ] at h; done)
      rw [this]
    unfold effF csOk
    rw [hn, hfp]
    simp only [Bool.and_self, if_true]
    unfold effF0
    rw [if_pos dst1]
    cases op with
    | call c =>
      obtain ⟨cal, a, t⟩ := c
      cases cal with
      | builtin b => cases b <;> first | rfl | (simp [isQ] at h; done)
      | _ => simp [isQ] at h
    | _ => first | rfl | (simp [isQ] at h; done)
  rw [h1]
  cases qv P S op <;> rfl
@[simp] theorem o_pick {d : Nat} {c a b : Operand} : ow P tr (some d) (.pick c a b) S K = onSt ((qv P S (.pick c a b)).map (S.q2 d)) K := o_q rfl rfl
@[simp] theorem o_nilCheck {d : Nat} {x : Operand} : ow P tr (some d) (.nilCheck x) S K = onSt ((qv P S (.nilCheck x)).map (S.q2 d)) K := o_q rfl rfl
@[simp] theorem o_binOp {d : Nat} {op : BinOp} {t t' : TypeId} {x y : Operand} : ow P tr (some d) (.binOp op t x y t') S K = onSt ((qv P S (.binOp op t x y t')).map (S.q2 d)) K := o_q rfl rfl
@[simp] theorem o_unOp {d : Nat} {op : UnOp} {t : TypeId} {x : Operand} : ow P tr (some d) (.unOp op t x) S K = onSt ((qv P S (.unOp op t x)).map (S.q2 d)) K := o_q rfl rfl
@[simp] theorem o_fieldAddr {d : Nat} {t : TypeId} {x : Operand} {f : Nat} : ow P tr (some d) (.fieldAddr t x f) S K = onSt ((qv P S (.fieldAddr t x f)).map (S.q2 d)) K := o_q rfl rfl
@[simp] theorem o_field {d : Nat} {t : TypeId} {x : Operand} {f : Nat} : ow P tr (some d) (.field t x f) S K = onSt ((qv P S (.field t x f)).map (S.q2 d)) K := o_q rfl rfl
@[simp] theorem o_indexAddr {d : Nat} {t : TypeId} {x i : Operand} : ow P tr (some d) (.indexAddr t x i) S K = (csG tr S.fo d (S.ev x) ∧ onSt ((qv P S (.indexAddr t x i)).map (S.q2 d)) K) := o_cs rfl rfl
@[simp] theorem o_index {d : Nat} {t : TypeId} {x i : Operand} : ow P tr (some d) (.index t x i) S K = onSt ((qv P S (.index t x i)).map (S.q2 d)) K := o_q rfl rfl
@[simp] theorem o_slice {d : Nat} {t : TypeId} {x : Operand} {lo hi mx : Option Operand} : ow P tr (some d) (.slice t x lo hi mx) S K = onSt ((qv P S (.slice t x lo hi mx)).map (S.q2 d)) K := o_q rfl rfl
def boS (P : Program) (S : PS) (d t : Nat) (ps : List (Nat × Operand)) (r : PV × Bool) : PS := match buildOw P S t ps with | some s => S.bo d s r.1 (nilAt P t ps) | none => S.bn d r.1 (nilAt P t ps)
/-- A struct whose nil cell comes to be an empty slice that is a box. -/
def PS.bb (S : PS) (d : Nat) (v : PV) (nl : Nat → Bool) : PS := (⟨some d, v, nl, fun _ => false, [⟨S.fo + d, S.gen (S.fo + d) + 1, [], fun _ => false⟩]⟩ : Eff).apply S
@[simp] theorem bb_t {d : Nat} {v : PV} {nl : Nat → Bool} {i : Nat} : (S.bb d v nl).t i = if i = d then v else S.t i := rfl
@[simp] theorem bb_box {d : Nat} {v : PV} {nl : Nat → Bool} {m : Nat} : (S.bb d v nl).box m = if m = S.fo + d then [] else S.box m := by
  simp only [PS.bb, Eff.apply, findU_one]; split <;> rename_i h <;> split at h <;> simp_all [eq_comm]
@[simp] theorem bb_gen {d : Nat} {v : PV} {nl : Nat → Bool} {m : Nat} : (S.bb d v nl).gen m = if m = S.fo + d then S.gen (S.fo + d) + 1 else S.gen m := by
  simp only [PS.bb, Eff.apply, findU_one]; split <;> rename_i h <;> split at h <;> simp_all [eq_comm]
@[simp] theorem bb_fo {d : Nat} {v : PV} {nl : Nat → Bool} : (S.bb d v nl).fo = S.fo := rfl
@[simp] theorem bb_ownt {d : Nat} {v : PV} {nl : Nat → Bool} {i j : Nat} : (S.bb d v nl).own (.t i j) = if i = d then nl j else S.own (.t i j) := by
  simp only [PS.bb, ap_own, Option.some.injEq, Bool.not_false, Bool.and_true, eq_comm (a := d)]
@[simp] theorem bb_ownb {d : Nat} {v : PV} {nl : Nat → Bool} {m k : Nat} : (S.bb d v nl).own (.b m k) = if m = S.fo + d then false else S.own (.b m k) := by
  simp only [PS.bb, ap_ownB, findU_one, Bool.not_false, Bool.and_true]; split <;> rename_i h <;> split at h <;> simp_all [eq_comm]
def nbS (P : Program) (S : PS) (d t : Nat) (ps : List (Nat × Operand)) (c sz : Nat) (ag : Bool) (r : PV × Bool) : Option PS :=
  match pcells r.1 with
  | some cs => if nilAt P t ps c = true ∧ 0 < sz ∧ c < cs.length then some (S.bb d (.pa (cs.set c (.bsl (S.fo + d) (S.gen (S.fo + d) + 1) 0 sz ag))) (fun j => decide (j ≠ c) && nilAt P t ps j)) else none
  | none => none
attribute [simp] nbT nbS
@[simp] theorem o_build {d : Nat} {t : TypeId} {ps : Array (Nat × Operand)} : ow P tr (some d) (.build t ps) S K =
    match nbT tr d with
    | some (c, sz, ag) => onSt ((qv P S (.build t ps)).bind (nbS P S d t ps.toList c sz ag)) K
    | none => if d + 80000 ∈ tr then onSt ((qv P S (.build t ps)).map (boS P S d t ps.toList)) K else onSt ((qv P S (.build t ps)).map (S.q2 d)) K := by
  have e : effV P S { dst := some d, op := .build t ps, type := 0, pos := "", after := #[], guard := none } = qv P S (.build t ps) := rfl
  rw [ow_plain (by simp)]
  simp only [effF, csOk, csOp, fpCk, fpOf, Bool.and_self, if_true, effF0, dst1, if_true, isOw, List.contains_iff_mem, nbOf]
  cases hnb : nbT tr d with
  | some q =>
    obtain ⟨c, sz, ag⟩ := q
    simp only [Option.isSome_some, if_true, nbEff, e]
    cases qv P S (.build t ps) with
    | none => rfl
    | some r =>
      simp only [Option.bind_some, nbS]
      cases pcells r.1 with
      | none => rfl
      | some cs =>
        simp only
        by_cases h : nilAt P t ps.toList c = true ∧ 0 < sz ∧ c < cs.length
        · rw [if_pos h, if_pos h]; rfl
        · rw [if_neg h, if_neg h]; rfl
  | none =>
    simp only [Option.isSome_none, Bool.false_eq_true, if_false]
    by_cases how : d + 80000 ∈ tr
    · rw [if_pos how]
      simp only [how, if_true, e]
      cases qv P S (.build t ps) with
      | none => rfl
      | some r =>
        simp only [Option.map_some, onSt_some, boS]
        cases buildOw P S t ps.toList <;> rfl
    · rw [if_neg how]
      simp only [how, if_false, e]
      cases qv P S (.build t ps) <;> rfl
/-- A slice of one element. -/
def b1S (S : PS) (d s sz : Nat) (ag : Bool) (c : List PV) : PS := S.n1 d s (.bsl (S.fo + d) (S.gen (S.fo + d) + 1) 1 sz ag) (S.gen (S.fo + d) + 1) c
@[simp] theorem b1S_eq {d s sz : Nat} {ag : Bool} {c : List PV} : b1S S d s sz ag c = S.n1 d s (.bsl (S.fo + d) (S.gen (S.fo + d) + 1) 1 sz ag) (S.gen (S.fo + d) + 1) c := rfl
/-- What a new slice of one element asks of a type: an element's cells, whether it is a struct. -/
def el1 (P : Program) (t : Nat) : Option (Nat × Bool) :=
  match elT P t with
  | some e => match aggT P e with | some ag => if 0 < szT P e ∧ szT P e ≤ 16777216 ∧ (zeroT P e).isSome = true then some (szT P e, ag) else none | none => none
  | none => none
def b1O (S : PS) (d s : Nat) (c : List PV) (q : Nat × Bool) : Option PS := if c.length = q.1 ∧ s ≠ d then some (b1S S d s q.1 q.2 c) else none
@[simp] theorem b1O_mk {d s sz : Nat} {ag : Bool} {c : List PV} : b1O S d s c (sz, ag) = if c.length = sz ∧ s ≠ d then some (b1S S d s sz ag c) else none := rfl
/-- A slice of data, as a box. -/
def b2O (S : PS) (d n : Nat) (r : PV) (q : Nat × Bool) : Option PS :=
  match r with
  | .d (.slice xs) => some (S.nb d (.bsl (S.fo + d) (S.gen (S.fo + d) + 1) n q.1 q.2) (S.gen (S.fo + d) + 1) ((flat xs).map .d) (fun _ => false))
  | _ => none
@[simp] theorem b2O_mk {d n sz : Nat} {ag : Bool} {xs : List DV} : b2O S d n (.d (.slice xs)) (sz, ag) = some (S.nb d (.bsl (S.fo + d) (S.gen (S.fo + d) + 1) n sz ag) (S.gen (S.fo + d) + 1) ((flat xs).map .d) (fun _ => false)) := rfl
@[simp] theorem o_buildSlice {d : Nat} {t : TypeId} {n : Nat} {ps : Array (Nat × Operand)} : ow P tr (some d) (.buildSlice t n ps) S K =
    if d + 10000 ∈ tr then (if d + 80000 ∈ tr then onSt ((qv P S (.buildSlice t n ps)).bind fun r => (el1 P t).bind (b2O S d n r.1)) K else match n, ps.toList with | 1, [(0, .tmp s)] => onSt ((pcells (S.t s)).bind fun c => (el1 P t).bind (b1O S d s c)) K | _, _ => ow P tr (some d) (.buildSlice t n ps) S K) else onSt ((qv P S (.buildSlice t n ps)).map (S.q2 d)) K := by
  by_cases hbx : d + 10000 ∈ tr
  · rw [if_pos hbx]
    by_cases how : d + 80000 ∈ tr
    · rw [if_pos how, ow_plain (by simp)]
      simp only [effF, csOk, csOp, fpCk, fpOf, Bool.and_self, if_true, effF0, dst1, if_true, isBx, isOw, List.contains_iff_mem, hbx, how, bsl2Eff, el1, qv, effV]
      cases he : elT P t with
      | none => rfl
      | some e =>
        dsimp only
        by_cases hc : ps.size = n ∧ n * szT P e ≤ 16777216 ∧ 0 < szT P e ∧ (zeroT P e).isSome = true
        · rw [if_pos hc]
          cases hx : elemsD S (szT P e) 0 ps.toList with
          | none =>
            simp only [Option.map_none, Option.bind_none]
            split <;> rfl
          | some xs =>
            simp only [Option.map_some, Option.bind_some]
            cases hag : aggT P e with
            | none =>
              rw [if_neg (by simp)]
              rfl
            | some ag =>
              by_cases h1 : szT P e ≤ 16777216
              · rw [if_pos ⟨hc.1, hc.2.1, hc.2.2.1, hc.2.2.2, h1, rfl⟩]
                dsimp only
                rw [if_pos ⟨hc.2.2.1, h1, hc.2.2.2⟩]
                have : ((some ag : Option Bool) == some true) = ag := by cases ag <;> rfl
                rw [this]
                rfl
              · rw [if_neg (fun h => h1 h.2.2.2.2.1)]
                dsimp only
                rw [if_neg (fun h => h1 h.2.1)]
                rfl
        · rw [if_neg hc, if_neg (fun h => hc ⟨h.1, h.2.1, h.2.2.1, h.2.2.2.1⟩)]
          rfl
    have hno : tr.contains (d + 80000) = false := by simpa using how
    rw [if_neg how]
    split
    · rename_i s hps
      rw [ow_plain (by simp)]
      simp only [effF, csOk, csOp, fpCk, fpOf, Bool.and_self, if_true, effF0, dst1, if_true, isBx, isOw, hno, Bool.false_eq_true, if_false, List.contains_iff_mem, hbx, bslEff, hps, el1]
      cases he : elT P t with
      | none => cases pcells (S.t s) <;> rfl
      | some e =>
        dsimp only
        cases hc : pcells (S.t s) with
        | none => rfl
        | some c =>
          simp only [Option.bind_some, true_and]
          cases hag : aggT P e with
          | none =>
            rw [if_neg (by simp)]
            rfl
          | some ag =>
            simp only [Option.isSome_some, true_and]
            by_cases h1 : 0 < szT P e ∧ szT P e ≤ 16777216 ∧ (zeroT P e).isSome = true
            · rw [if_pos h1]
              simp only [Option.bind_some, b1O_mk]
              by_cases h2 : c.length = szT P e ∧ s ≠ d
              · rw [if_pos ⟨h2.1, h1.1, h1.2.1, h1.2.2, h2.2⟩, if_pos h2]
                have : ((some ag : Option Bool) == some true) = ag := by cases ag <;> rfl
                rw [this]
                rfl
              · rw [if_neg (fun h => h2 ⟨h.1, h.2.2.2.2⟩), if_neg h2]
                rfl
            · rw [if_neg h1, if_neg (fun h => h1 ⟨h.2.1, h.2.2.1, h.2.2.2.1⟩)]
              rfl
    · rfl
  · rw [if_neg hbx, ow_plain (by simp)]
    have hf : tr.contains (d + 10000) = false := by simpa using hbx
    simp only [effF, csOk, csOp, fpCk, fpOf, Bool.and_self, if_true, effF0, dst1, if_true, isBx, hf, Bool.false_eq_true, if_false]
    show onSt (Option.map _ (Option.map _ (qv P S (.buildSlice t n ps)))) K = _
    cases qv P S (.buildSlice t n ps) <;> rfl
@[simp] theorem o_makeFunc {d : Nat} {f : Fn} {a b : Array Operand} : ow P tr (some d) (.makeFunc f a b) S K = onSt ((qv P S (.makeFunc f a b)).map (S.q2 d)) K := o_q rfl rfl
/-- Bytes of a literal, turned to bytes. -/
def cvS (P : Program) (S : PS) (d s t : Nat) (p : PV) : Option PS :=
  match P.underlying s, p with
  | some (.slice e), .bsl n g len sz ag => if s = t ∧ isU8 P e = true ∧ 0 < len then frzS S d (.bsl n g len sz ag) else none
  | _, _ => none
@[simp] theorem o_convert {d : Nat} {s t : TypeId} {x : Operand} : ow P tr (some d) (.convert s t x) S K = if d + 20000 ∈ tr then onSt (cvS P S d s t (S.ev x)) K else onSt ((qv P S (.convert s t x)).map (S.q2 d)) K := by
  rw [ow_plain (by simp)]
  by_cases h : d + 20000 ∈ tr
  · rw [if_pos h]
    simp only [effF, csOk, csOp, fpCk, fpOf, Bool.and_self, if_true, effF0, dst1, if_true, isFz, List.contains_iff_mem, h, cvfEff, cvS]
    cases hu : P.underlying s with
    | none => rfl
    | some q =>
      cases hx : S.ev x with
      | bsl n g len sz ag =>
        cases q with
        | slice e =>
          dsimp only
          by_cases hc : s = t ∧ isU8 P e = true ∧ 0 < len
          · rw [if_pos hc, if_pos hc, ← frzE_S (op := .convert s t x)]
          · rw [if_neg hc, if_neg hc]; rfl
        | _ => rfl
      | _ => cases q <;> rfl
  · rw [if_neg h]
    have hf : tr.contains (d + 20000) = false := by simpa using h
    simp only [effF, csOk, csOp, fpCk, fpOf, Bool.and_self, if_true, effF0, dst1, if_true, isFz, hf, Bool.false_eq_true, if_false]
    show onSt (Option.map _ (Option.map _ (qv P S (.convert s t x)))) K = _
    cases qv P S (.convert s t x) <;> rfl
@[simp] theorem o_len {d : Nat} {a : Array Operand} {ts : Array TypeId} : ow P tr (some d) (.call ⟨.builtin .len, a, ts⟩) S K = onSt ((qv P S (.call ⟨.builtin .len, a, ts⟩)).map (S.q2 d)) K := o_q rfl rfl
@[simp] theorem o_min {d : Nat} {a : Array Operand} {ts : Array TypeId} : ow P tr (some d) (.call ⟨.builtin .min, a, ts⟩) S K = onSt ((qv P S (.call ⟨.builtin .min, a, ts⟩)).map (S.q2 d)) K := o_q rfl rfl
@[simp] theorem o_max {d : Nat} {a : Array Operand} {ts : Array TypeId} : ow P tr (some d) (.call ⟨.builtin .max, a, ts⟩) S K = onSt ((qv P S (.call ⟨.builtin .max, a, ts⟩)).map (S.q2 d)) K := o_q rfl rfl

/-! ### loads, stores, boxes -/
def loadV (P : Program) (gen : Nat → Nat) (box : Nat → List PV) (t : TypeId) (x : PV) : Option PV :=
  match x with
  | .ptr n g o =>
    if g = gen n ∧ 0 < szT P t ∧ o + szT P t ≤ (box n).length then
      match aggT P t with
      | some true => some (mkA (((box n).drop o).take (szT P t)))
      | some false => if szT P t = 1 then (box n)[o]? else none
      | none => none
    else none
  | .cptr cs => (partD P t cs 0).map .d
  | _ => none
theorem loadPV_eq {t : TypeId} {x : Operand} : loadPV P S t x = loadV P S.gen S.box t (S.ev x) := rfl
def ldT (P : Program) (tr : List Nat) (d t : Nat) (x : PV) (S : PS) (r : PV) : Option PS :=
  if d + 20000 ∈ tr then frzS S d r else if d ∈ tr then (match x with | .ptr n _ o => if aggT P t = some false then some (S.lt d r n o) else none | _ => none) else some (S.q d r false)
@[simp] theorem ldT_p {d t n g o : Nat} {r : PV} : ldT P tr d t (.ptr n g o) S r = if d + 20000 ∈ tr then frzS S d r else if d ∈ tr then (if aggT P t = some false then some (S.lt d r n o) else none) else some (S.q d r false) := rfl
@[simp] theorem ldT_c {d t : Nat} {cs : List DV} {r : PV} : ldT P tr d t (.cptr cs) S r = if d + 20000 ∈ tr then frzS S d r else if d ∈ tr then none else some (S.q d r false) := rfl
@[simp] theorem o_load {d : Nat} {t : TypeId} {x : Operand} : ow P tr (some d) (.load t x) S K = (csG tr S.fo d (S.ev x) ∧ onSt ((loadV P S.gen S.box t (S.ev x)).bind (ldT P tr d t (S.ev x) S)) K) := by
  rw [ow_cs (by simp) rfl]
  have key : onSt ((effF0 P (d + 1) tr S { dst := some d, op := .load t x, type := 0, pos := "", after := #[], guard := none }).map fun E => E.apply S) K = onSt ((loadV P S.gen S.box t (S.ev x)).bind (ldT P tr d t (S.ev x) S)) K := by
   simp only [effF0, dst2, if_true, loadPV_eq]
   cases loadV P S.gen S.box t (S.ev x) with
   | none => rfl
   | some r =>
     simp only [Option.bind_some, ldT, isFz, isTr, List.contains_iff_mem]
     by_cases h : d + 20000 ∈ tr
     · rw [if_pos h, if_pos h, frzE_S]
     · rw [if_neg h, if_neg h]
       by_cases h2 : d ∈ tr
       · rw [if_pos h2, if_pos h2]
         cases S.ev x with
         | ptr n g o =>
           cases aggT P t with
           | none => rfl
           | some b => cases b <;> rfl
         | _ => rfl
       · rw [if_neg h2, if_neg h2]
         rfl
  rw [key]

structure Sto where
  n : Nat
  g : Nat
  o : Nat
  cs : List PV
def stoV (P : Program) (t : Nat) (gen : Nat → Nat) (box : Nat → List PV) (x : PV) (cs : Option (List PV)) : Option Sto :=
  match x, cs with
  | .ptr n g o, some cs => if g = gen n ∧ cs.length = szT P t ∧ 0 < szT P t ∧ o + cs.length ≤ (box n).length then some ⟨n, g, o, cs⟩ else none
  | _, _ => none
@[simp] theorem stoV_p {t : Nat} {gen : Nat → Nat} {box : Nat → List PV} {n g o : Nat} {cs : List PV} : stoV P t gen box (.ptr n g o) (some cs) = if g = gen n ∧ cs.length = szT P t ∧ 0 < szT P t ∧ o + cs.length ≤ (box n).length then some ⟨n, g, o, cs⟩ else none := rfl
/-- Cells are laid over others. -/
def over (l : List PV) (o : Nat) (cs : List PV) : List PV := l.take o ++ cs ++ l.drop (o + cs.length)
def stS (S : PS) (v : Operand) (q : Sto) : PS := S.st v q.n q.g q.o q.cs.length (over (S.box q.n) q.o q.cs)
@[simp] theorem stS_mk {v : Operand} {n g o : Nat} {cs : List PV} : stS S v ⟨n, g, o, cs⟩ = S.st v n g o cs.length (over (S.box n) o cs) := rfl
/-- A store at one box alone. -/
def stG (tr : List Nat) (fo : Nat) (v : Operand) (p : PV) : Prop := match v with | .tmp s => (match fpT tr (2000 + s) with | some m => atBox (fo + m) p = true | none => True) | _ => True
@[simp] theorem stG_t {fo s : Nat} {p : PV} : stG tr fo (.tmp s) p = (match fpT tr (2000 + s) with | some m => atBox (fo + m) p = true | none => True) := rfl
@[simp] theorem stG_c {fo : Nat} {v : Value} {p : PV} : stG tr fo (.const v) p = True := rfl
theorem stG_ck {t : TypeId} {x v : Operand} : fpCk tr S { dst := none, op := .store t x v, type := 0, pos := "", after := #[], guard := none } = true ↔ stG tr S.fo v (S.ev x) := by
  cases v with
  | tmp s =>
    unfold fpCk fpOf stG
    simp only
    cases fpT tr (2000 + s) with
    | none => simp
    | some m => simp [csOp]
  | _ => simp [fpCk, fpOf, stG]
@[simp] theorem o_store {t : TypeId} {x v : Operand} : ow P tr none (.store t x v) S K = (stG tr S.fo v (S.ev x) ∧ onSt ((stoV P t S.gen S.box (S.ev x) (pcells (S.ev v))).map (stS S v)) K) := by
  rw [ow_plain (by simp)]
  have hf := stG_ck (tr := tr) (S := S) (t := t) (x := x) (v := v)
  by_cases hg : stG tr S.fo v (S.ev x)
  case neg =>
    have h0 : fpCk tr S { dst := none, op := .store t x v, type := 0, pos := "", after := #[], guard := none } = false := by
      rw [Bool.eq_false_iff]
      exact fun e => hg (hf.1 e)
    simp only [effF, h0, Bool.and_false, Bool.false_eq_true, if_false, hg, false_and]
    rfl
  simp only [effF, csOk, csOp, hf.2 hg, Bool.and_self, if_true, effF0, dst0, if_true, hg, true_and]
  cases hx : S.ev x with
  | ptr n g o =>
    cases hc : pcells (S.ev v) with
    | none => rfl
    | some cs =>
      by_cases h : g = S.gen n ∧ cs.length = szT P t ∧ 0 < szT P t ∧ o + cs.length ≤ (S.box n).length
      · rw [stoV_p, if_pos h]
        simp only [if_pos h]
        cases v with
        | tmp s =>
          have e1 : (match S.t s with | .d (.slice _) => true | _ => false) = isSl (S.t s) := rfl
          simp only [ev_tmp, e1]
          rfl
        | _ => rfl
      · rw [stoV_p, if_neg h]
        simp only [if_neg h]
        rfl
  | _ => rfl

def zeroC (P : Program) (e : TypeId) : Option (List DV) := match zeroT P e with | some z => if z.cells.toList.all (·.oneCell') = true then some (z.cells.toList.map ofConstD) else none | none => none
def nilC (P : Program) (e : TypeId) (k : Nat) : Bool := match zeroT P e with | some z => isNilV (z.cells.getD k undef) | none => false
theorem nilAt_eq {t : TypeId} {ps : List (Nat × Operand)} {j : Nat} : nilAt P t ps j = (offOk P t j ps && nilC P t j) := by
  unfold nilAt nilC
  congr 1
  cases zeroT P t with
  | none => rfl
  | some z =>
    by_cases h : j < z.cells.size
    · simp [h]
    · simp only [h, decide_false, Bool.false_and]
      rw [Array.getD_eq_getD_getElem?, Array.getElem?_eq_none (by omega)]
      rfl
@[simp] theorem offOk_nil {t : TypeId} {j : Nat} : offOk P t j [] = true := rfl
@[simp] theorem offOk_cons {t : TypeId} {j i : Nat} {x : Operand} {r : List (Nat × Operand)} : offOk P t j ((i, x) :: r) = ((match fldT P t i with | some (off, ft) => decide (j < off ∨ off + szT P ft ≤ j) | none => false) && offOk P t j r) := rfl
@[simp] theorem buildOw_nil {t : TypeId} : buildOw P S t [] = none := rfl
@[simp] theorem buildOw_c {t : TypeId} {i : Nat} {v : Value} {r : List (Nat × Operand)} : buildOw P S t ((i, .const v) :: r) = none := rfl
@[simp] theorem buildOw_t {t : TypeId} {i s : Nat} {r : List (Nat × Operand)} : buildOw P S t ((i, .tmp s) :: r) = (match fldT P t i with | some (off, ft) => if off = 0 ∧ szT P ft = 1 ∧ offOk P t 0 r = true ∧ isSl (S.t s) = true then some s else none | none => none) := rfl
attribute [simp] nilAt_eq boS
def alS (P : Program) (S : PS) (d e : Nat) (c : List DV) : PS := S.nb d (.ptr (S.fo + d) (S.gen (S.fo + d) + 1) 0) (S.gen (S.fo + d) + 1) (c.map .d) (nilC P e)
@[simp] theorem alS_eq {d e : Nat} {c : List DV} : alS P S d e c = S.nb d (.ptr (S.fo + d) (S.gen (S.fo + d) + 1) 0) (S.gen (S.fo + d) + 1) (c.map .d) (nilC P e) := rfl
@[simp] theorem o_alloc {d : Nat} {e : TypeId} : ow P tr (some d) (.alloc e) S K = onSt ((zeroC P e).map (alS P S d e)) K := by
  rw [ow_plain (by simp)]
  simp only [effF, csOk, csOp, fpCk, fpOf, Bool.and_self, if_true, effF0, dst1, if_true, zeroC]
  cases hz : zeroT P e with
  | none => rfl
  | some z =>
    by_cases hall : z.cells.toList.all (·.oneCell') = true
    · simp only [if_pos hall, Option.map_some, onSt_some, alS, PS.nb, List.map_map]
      have : nilC P e = fun k => isNilV (z.cells.getD k undef) := by funext k; simp only [nilC, hz]
      rw [this]
      rfl
    · simp only [if_neg hall]
      rfl
def bxF (S : PS) (d : Nat) (c : List DV) : PS := S.q d (.cptr c) false
@[simp] theorem bxF_eq {d : Nat} {c : List DV} : bxF S d c = S.q d (.cptr c) false := rfl
def bxS (S : PS) (d : Nat) (c : List PV) : PS := S.nb d (.ptr (S.fo + d) (S.gen (S.fo + d) + 1) 0) (S.gen (S.fo + d) + 1) c (fun _ => false)
@[simp] theorem bxS_eq {d : Nat} {c : List PV} : bxS S d c = S.nb d (.ptr (S.fo + d) (S.gen (S.fo + d) + 1) 0) (S.gen (S.fo + d) + 1) c (fun _ => false) := rfl
def bxO (S : PS) (d : Nat) (x : Operand) (c : List PV) : Option PS := match x with | .tmp s => if s ≠ d then some (S.n1 d s (.ptr (S.fo + d) (S.gen (S.fo + d) + 1) 0) (S.gen (S.fo + d) + 1) c) else none | _ => none
@[simp] theorem bxO_t {d s : Nat} {c : List PV} : bxO S d (.tmp s) c = if s ≠ d then some (S.n1 d s (.ptr (S.fo + d) (S.gen (S.fo + d) + 1) 0) (S.gen (S.fo + d) + 1) c) else none := rfl
@[simp] theorem o_box {d : Nat} {e : TypeId} {x : Operand} : ow P tr (some d) (.box e x) S K = if d + 20000 ∈ tr then onSt (((pcells (S.ev x)).bind toD).map (bxF S d)) K else if d + 80000 ∈ tr then onSt ((pcells (S.ev x)).bind (bxO S d x)) K else onSt ((pcells (S.ev x)).map (bxS S d)) K := by
  rw [ow_plain (by simp)]
  simp only [effF, csOk, csOp, fpCk, fpOf, Bool.and_self, if_true, effF0, dst1, if_true, isFz, List.contains_iff_mem]
  by_cases h : d + 20000 ∈ tr
  · rw [if_pos h]
    simp only [if_pos h]
    cases pcells (S.ev x) with
    | none => rfl
    | some cs =>
      simp only [Option.bind_some]
      cases toD cs <;> rfl
  · rw [if_neg h]
    simp only [if_neg h, isOw, List.contains_iff_mem]
    by_cases h2 : d + 80000 ∈ tr
    · rw [if_pos h2]
      simp only [if_pos h2]
      cases pcells (S.ev x) with
      | none => rfl
      | some cs =>
        simp only [Option.bind_some]
        cases x with
        | tmp s =>
          simp only [boxOw, bxO_t]
          by_cases h3 : s ≠ d
          · rw [if_pos h3, if_pos h3]; rfl
          · rw [if_neg h3, if_neg h3]; rfl
        | _ => rfl
    · rw [if_neg h2]
      simp only [if_neg h2]
      cases pcells (S.ev x) <;> rfl
def extV (p : PV) (k : Nat) : Option PV := match p with | .tup ps => (match ps[k]? with | some (.tup _) => none | some p => some p | none => none) | _ => none
@[simp] theorem extV_tup {ps : List PV} {k : Nat} : extV (.tup ps) k = (match ps[k]? with | some (.tup _) => none | some p => some p | none => none) := rfl
def PS.exS (S : PS) (d s k : Nat) (p : PV) : PS := S.ex d p s k
@[simp] theorem exS_eq {d s k : Nat} {p : PV} : S.exS d s k p = S.ex d p s k := rfl
@[simp] theorem o_ext {d s k : Nat} : ow P tr (some d) (.extract (.tmp s) k) S K = onSt ((extV (S.t s) k).map (S.exS d s k)) K := by
  rw [ow_plain (by simp)]
  simp only [effF, csOk, csOp, fpCk, fpOf, Bool.and_self, if_true, effF0, dst1, if_true]
  cases S.t s with
  | tup ps =>
    simp only [extV]
    cases ps[k]? with
    | none => rfl
    | some p => cases p <;> rfl
  | _ => rfl

/-! ### appends, new slices -/
/-- What an append asks of a type: an element's cells, its size in bytes, the zero one, whether that is one cell. -/
def apT (P : Program) (t : Nat) : Option (Nat × Nat × DV × Bool) :=
  match elT P t with
  | some e => match bytT P e, zeroT P e with
    | some b, some z => if z.cells.size = szT P e ∧ 0 < szT P e ∧ 0 < b then some (szT P e, b, ofConstD z, z.oneCell') else none
    | _, _ => none
  | none => none
/-- Whether its elements are structs. -/
def agE (P : Program) (t : Nat) : Option Bool := (elT P t).bind (aggT P)
def apS (u : Option TypeDesc) (z : DV) (o : Bool) (y : PV) : Option (List DV) :=
  match y, u with
  | .d (.slice ys), some (.slice _) => some ys
  | .d (.str s), some .string => some (s.map fun b => .int .u8 b.toNat)
  | .d (.int _ n), some (.int _) => if 0 ≤ n ∧ n ≤ 9223372036854775807 ∧ o = true then some (List.replicate n.toNat z) else none
  | _, _ => none
/-- What is put behind. -/
def apY (rd : Bool) (u : Option TypeDesc) (z : DV) (o : Bool) (S : PS) (y : PV) : Option (List DV) :=
  match y with
  | .bsl n g len sz ag => (match u with | some (.slice _) => if rd = true then thawB (S.gen n) (S.box n) g len sz ag else none | _ => none)
  | y => apS u z o y
@[simp] theorem apY_s {rd : Bool} {e : TypeId} {z : DV} {o : Bool} {ys : List DV} : apY rd (some (.slice e)) z o S (.d (.slice ys)) = some ys := rfl
@[simp] theorem apY_str {rd : Bool} {z : DV} {o : Bool} {s : List UInt8} : apY rd (some .string) z o S (.d (.str s)) = some (s.map fun b => .int .u8 b.toNat) := rfl
@[simp] theorem apY_n {rd : Bool} {k k' : IntKind} {z : DV} {o : Bool} {n : Int} : apY rd (some (.int k)) z o S (.d (.int k' n)) = if 0 ≤ n ∧ n ≤ 9223372036854775807 ∧ o = true then some (List.replicate n.toNat z) else none := rfl
@[simp] theorem apY_b {rd : Bool} {e : TypeId} {z : DV} {o : Bool} {n g len sz : Nat} {ag : Bool} : apY rd (some (.slice e)) z o S (.bsl n g len sz ag) = if rd = true then thawB (S.gen n) (S.box n) g len sz ag else none := rfl
/-- The state behind an append. -/
def apF (S : PS) (d s : Nat) (q : Nat × Nat × DV × Bool) (bx : Bool) (ae : Option Bool) (x : PV) (own : Bool) (ys : List DV) : Option PS :=
  if szOk q.1 ys = true then
    match x with
    | .d (.slice xs) =>
      if bx = true then
        match ae with
        | some ag => if own = true ∧ xs = [] ∧ ys.length * q.2.1 ≤ 140737488355328 ∧ (ag = false → q.1 = 1) then some (S.nx d s (.bsl (S.fo + d) (S.gen (S.fo + d) + 1) ys.length q.1 ag) (S.gen (S.fo + d) + 1) ((flat ys).map .d)) else none
        | none => none
      else if own = true ∧ szOk q.1 xs = true ∧ (xs.length + ys.length) * q.2.1 ≤ 140737488355328 then some (S.ap d s (xs ++ ys)) else none
    | .bsl n g len sz ag =>
      if g = S.gen n ∧ sz = q.1 ∧ (S.box n).length = len * sz ∧ (len + ys.length) * q.2.1 ≤ 140737488355328 ∧ bx = true then some (S.gw d n (.bsl n (g + 1) (len + ys.length) sz ag) (g + 1) (S.box n ++ (flat ys).map .d)) else none
    | _ => none
  else none
@[simp] theorem apF_s {d s : Nat} {q : Nat × Nat × DV × Bool} {ae : Option Bool} {xs : List DV} {own : Bool} {ys : List DV} :
    apF S d s q false ae (.d (.slice xs)) own ys = if szOk q.1 ys = true ∧ own = true ∧ szOk q.1 xs = true ∧ (xs.length + ys.length) * q.2.1 ≤ 140737488355328 then some (S.ap d s (xs ++ ys)) else none := by
  unfold apF
  by_cases h : szOk q.1 ys = true
  · simp [h]
  · simp [h]
@[simp] theorem apF_n {d s : Nat} {q : Nat × Nat × DV × Bool} {ag : Bool} {xs : List DV} {own : Bool} {ys : List DV} :
    apF S d s q true (some ag) (.d (.slice xs)) own ys = if szOk q.1 ys = true ∧ own = true ∧ xs = [] ∧ ys.length * q.2.1 ≤ 140737488355328 ∧ (ag = false → q.1 = 1) then some (S.nx d s (.bsl (S.fo + d) (S.gen (S.fo + d) + 1) ys.length q.1 ag) (S.gen (S.fo + d) + 1) ((flat ys).map .d)) else none := by
  unfold apF
  by_cases h : szOk q.1 ys = true
  · simp [h]
  · simp [h]
@[simp] theorem apF_b {d s : Nat} {q : Nat × Nat × DV × Bool} {ae : Option Bool} {n g len sz : Nat} {ag own : Bool} {ys : List DV} :
    apF S d s q true ae (.bsl n g len sz ag) own ys = if szOk q.1 ys = true ∧ g = S.gen n ∧ sz = q.1 ∧ (S.box n).length = len * sz ∧ (len + ys.length) * q.2.1 ≤ 140737488355328 then some (S.gw d n (.bsl n (g + 1) (len + ys.length) sz ag) (g + 1) (S.box n ++ (flat ys).map .d)) else none := by
  unfold apF
  by_cases h : szOk q.1 ys = true
  · simp [h]
  · simp [h]
def apA (P : Program) (tr : List Nat) (S : PS) (d s t tx : Nat) (x y : PV) (own : Bool) (q : Nat × Nat × DV × Bool) : Option PS :=
  (apY (decide (d + 30000 ∈ tr)) (P.underlying tx) q.2.2.1 q.2.2.2 S y).bind (apF S d s q (decide (d + 10000 ∈ tr)) (agE P t) x own)
@[simp] theorem apA_mk {d s t tx : Nat} {x y : PV} {own : Bool} {sz b : Nat} {z : DV} {o : Bool} : apA P tr S d s t tx x y own (sz, b, z, o) = (apY (decide (d + 30000 ∈ tr)) (P.underlying tx) z o S y).bind (apF S d s (sz, b, z, o) (decide (d + 10000 ∈ tr)) (agE P t) x own) := rfl
theorem app_key {d s t tx : Nat} {x : Operand} {op : Op} : (appEff P tr S { dst := some d, op := op, type := 0, pos := "", after := #[], guard := none } [.tmp s, x] [t, tx]).map (fun E => E.apply S) = (apT P t).bind (apA P tr S d s t tx (S.t s) (S.ev x) (S.own (.t s 0))) := by
  simp only [appEff, isBx, isRd, apT, apEl]
  cases he : elT P t with
  | none => rfl
  | some e =>
    simp only
    cases hb : bytT P e with
    | none => rfl
    | some b =>
      cases hz : zeroT P e with
      | none => rfl
      | some z =>
        simp only
        by_cases h1 : z.cells.size = szT P e ∧ 0 < szT P e ∧ 0 < b
        · rw [if_pos h1, if_pos h1]
          simp only [Option.bind_some, apA_mk]
          have hap : appSrc P (tr.contains (d + 30000)) S e x tx = apY (decide (d + 30000 ∈ tr)) (P.underlying tx) (ofConstD z) (z.oneCell') S (S.ev x) := by
            have hcn : tr.contains (d + 30000) = decide (d + 30000 ∈ tr) := by
              rw [Bool.eq_iff_iff]; simp
            rw [hcn]
            unfold appSrc apY apS
            rw [hz]
            cases S.ev x with
            | d y => cases y <;> first | rfl | (cases P.underlying tx with
                | none => rfl
                | some u => cases u <;> rfl)
            | bsl n g len sz ag => cases P.underlying tx with
                | none => rfl
                | some u => cases u <;> rfl
            | _ => rfl
          rw [hap]
          cases apY (decide (d + 30000 ∈ tr)) (P.underlying tx) (ofConstD z) (z.oneCell') S (S.ev x) with
          | none => rfl
          | some ys =>
            simp only [Option.bind_some, apF, List.contains_iff_mem, decide_eq_true_eq, agE, he]
            by_cases h2 : szOk (szT P e) ys = true
            · simp only [if_pos h2]
              cases S.t s with
              | d xv =>
                cases xv with
                | slice xs =>
                  simp only
                  by_cases h3 : d + 10000 ∈ tr
                  · simp only [if_pos h3]
                    cases hag : aggT P e with
                    | none =>
                      rw [if_neg (by simp)]
                      rfl
                    | some ag =>
                      simp only [Option.some.injEq, Option.isSome_some, and_true]
                      by_cases h4 : S.own (.t s 0) = true ∧ xs = [] ∧ ys.length * b ≤ 140737488355328 ∧ (ag = false → szT P e = 1)
                      · rw [if_pos h4, if_pos h4]
                        have : ((some ag : Option Bool) == some true) = ag := by cases ag <;> rfl
                        rw [this]
                        rfl
                      · rw [if_neg h4, if_neg h4]
                        rfl
                  · simp only [if_neg h3]
                    by_cases h4 : S.own (.t s 0) = true ∧ szOk (szT P e) xs = true ∧ (xs.length + ys.length) * b ≤ 140737488355328
                    · rw [if_pos h4, if_pos h4]; rfl
                    · rw [if_neg h4, if_neg h4]; rfl
                | _ => rfl
              | bsl n g len sz ag =>
                simp only
                by_cases h3 : d + 10000 ∈ tr
                · simp only [h3, Option.isSome_some, and_true, true_and]
                  by_cases h4 : g = S.gen n ∧ sz = szT P e ∧ (S.box n).length = len * sz ∧ (len + ys.length) * b ≤ 140737488355328
                  · rw [if_pos h4, if_pos h4]; rfl
                  · rw [if_neg h4, if_neg h4]; rfl
                · simp only [h3, and_false, if_false]
                  rfl
              | _ => rfl
            · simp only [if_neg h2]
              rfl
        · rw [if_neg h1, if_neg h1]
          rfl
/-- The cells of what is put behind, told as one's own there. -/
def giveS (S : PS) (d : Nat) (y : PV) (S' : PS) : Option PS :=
  match y, S'.t d with
  | .bsl m g len sz _, .bsl u _ _ _ _ => if (S.box m).length = len * sz ∧ g = S.gen m ∧ m ≠ u ∧ (S.box m).length ≤ (S'.box u).length then some (S'.give u m ((S'.box u).length - (S.box m).length)) else none
  | _, _ => none
def giveT (S : PS) (m g len sz : Nat) (r : PV) (S' : PS) : Option PS :=
  match r with
  | .bsl u _ _ _ _ => if (S.box m).length = len * sz ∧ g = S.gen m ∧ m ≠ u ∧ (S.box m).length ≤ (S'.box u).length then some (S'.give u m ((S'.box u).length - (S.box m).length)) else none
  | _ => none
@[simp] theorem giveS_b {d m g len sz : Nat} {ag : Bool} {S' : PS} : giveS S d (.bsl m g len sz ag) S' = giveT S m g len sz (S'.t d) S' := by unfold giveS giveT; cases S'.t d <;> rfl
@[simp] theorem giveT_b {m g len sz u a b c : Nat} {e : Bool} {S' : PS} : giveT S m g len sz (.bsl u a b c e) S' = if (S.box m).length = len * sz ∧ g = S.gen m ∧ m ≠ u ∧ (S.box m).length ≤ (S'.box u).length then some (S'.give u m ((S'.box u).length - (S.box m).length)) else none := rfl
theorem app_bx {d s t tx : Nat} {x : Operand} {op : Op} {E : Eff} (hbx : d + 10000 ∈ tr) (he : appEff P tr S { dst := some d, op := op, type := 0, pos := "", after := #[], guard := none } [.tmp s, x] [t, tx] = some E) :
    E.dst = some d ∧ ∃ u, E.bx = [u] ∧ (∃ g l z a, E.r = .bsl u.n g l z a) ∧ ∀ n k, E.clr (.b n k) = false := by
  have hc : tr.contains (d + 10000) = true := by simpa using hbx
  simp only [appEff, isBx, hc, if_true] at he
  repeat' (split at he)
  all_goals first
    | (cases he; exact ⟨rfl, _, rfl, ⟨_, _, _, _, rfl⟩, fun _ _ => rfl⟩)
    | (cases he; done)
@[simp] theorem o_app {d s t tx : Nat} {x : Operand} : ow P tr (some d) (.call ⟨.builtin .append, ⟨[.tmp s, x]⟩, ⟨[t, tx]⟩⟩) S K =
    if d + 80000 ∈ tr then (if d + 30000 ∈ tr ∧ d + 10000 ∈ tr then onSt (((apT P t).bind (apA P tr S d s t tx (S.t s) (S.ev x) (S.own (.t s 0)))).bind (giveS S d (S.ev x))) K else False)
    else onSt ((apT P t).bind (apA P tr S d s t tx (S.t s) (S.ev x) (S.own (.t s 0)))) K := by
  rw [ow_plain (by simp)]
  simp only [effF, csOk, csOp, fpCk, fpOf, Bool.and_self, if_true, effF0, dst1, if_true, isOw, List.contains_iff_mem]
  by_cases how : d + 80000 ∈ tr
  · simp only [if_pos how, isBx, isRd, List.contains_iff_mem]
    by_cases hrb : d + 30000 ∈ tr ∧ d + 10000 ∈ tr
    · simp only [if_pos hrb]
      rw [← app_key (op := .call ⟨.builtin .append, ⟨[.tmp s, x]⟩, ⟨[t, tx]⟩⟩)]
      cases he : appEff P tr S { dst := some d, op := .call ⟨.builtin .append, ⟨[.tmp s, x]⟩, ⟨[t, tx]⟩⟩, type := 0, pos := "", after := #[], guard := none } [.tmp s, x] [t, tx] with
      | none =>
        simp only [Option.bind_none, Option.map_none]
        cases srcBsl S [.tmp s, x] <;> rfl
      | some E =>
        obtain ⟨hd, u, hb, ⟨g, l, z, a, hr⟩, hclr⟩ := app_bx hrb.2 he
        have e1 : (E.apply S).t d = .bsl u.n g l z a := by
          simp only [Eff.apply, hd, hr, upd_same]
        have e2 : (E.apply S).box u.n = u.c := by
          simp only [Eff.apply, hb, findU_one, if_true]
        simp only [Option.map_some, Option.bind_some, giveS, e1, e2, srcBsl]
        cases hx : S.ev x with
        | bsl m g' len sz ag =>
          simp only
          by_cases h1 : (S.box m).length = len * sz ∧ g' = S.gen m
          · rw [if_pos h1]
            simp only [giveOwn, hb]
            by_cases h2 : m ≠ u.n ∧ (S.box m).length ≤ u.c.length
            · rw [if_pos h2, if_pos ⟨h1.1, h1.2, h2.1, by rw [e2]; exact h2.2⟩, e2]
              simp only [Option.map_some, onSt_some]
              congr 1
              have e : ¬ u.n = m := fun e => h2.1 e.symm
              simp only [Eff.apply, PS.give, PS.mk.injEq, true_and, and_true]
              refine ⟨?_, ?_, ?_⟩
              · funext n
                simp only [findU, hb]
                by_cases e1 : u.n = n
                · simp [e1]
                · by_cases e2 : m = n
                  · subst e2; simp [e1]
                  · simp [e1, e2]
              · funext n
                simp only [findU, hb]
                by_cases e1 : u.n = n
                · simp [e1]
                · by_cases e2 : m = n
                  · subst e2; simp [e1]
                  · simp [e1, e2]
              · funext l
                cases l with
                | t i j => rfl
                | b n k =>
                  simp only [findU, hb, hclr, Bool.not_false, Bool.and_true]
                  by_cases e1 : u.n = n
                  · subst e1; simp [e]
                  · have e1' : ¬ n = u.n := fun e => e1 e.symm
                    by_cases e2 : m = n
                    · subst e2; simp [e1, e1']
                    · have e2' : ¬ n = m := fun e => e2 e.symm
                      simp [e1, e1', e2, e2']
            · rw [if_neg h2, if_neg (fun h => h2 ⟨h.2.2.1, by rw [← e2]; exact h.2.2.2⟩)]
              rfl
          · rw [if_neg h1, if_neg (fun h => h1 ⟨h.1, h.2.1⟩)]
            rfl
        | _ => rfl
    · simp only [if_neg hrb]
      cases srcBsl S [.tmp s, x] <;> simp
  · simp only [if_neg how]
    rw [← app_key (op := .call ⟨.builtin .append, ⟨[.tmp s, x]⟩, ⟨[t, tx]⟩⟩)]
def mkV (q : Option (Nat × Nat × DV × Bool)) (x y : PV) : Option (Nat × DV) :=
  match q, x, y with
  | some (sz, b, z, o), .d (.int _ n), .d (.int _ m) => if n = m ∧ 0 ≤ n ∧ n ≤ 9223372036854775807 ∧ n * b ≤ 281474976710656 ∧ sz = 1 ∧ o = true then some (n.toNat, z) else none
  | _, _, _ => none
@[simp] theorem mkV_n {sz b : Nat} {z : DV} {o : Bool} {k k' : IntKind} {n m : Int} : mkV (some (sz, b, z, o)) (.d (.int k n)) (.d (.int k' m)) = if n = m ∧ 0 ≤ n ∧ n ≤ 9223372036854775807 ∧ n * b ≤ 281474976710656 ∧ sz = 1 ∧ o = true then some (n.toNat, z) else none := rfl
def mkS (S : PS) (d : Nat) (q : Nat × DV) : PS := S.nb d (.bsl (S.fo + d) (S.gen (S.fo + d) + 1) q.1 1 false) (S.gen (S.fo + d) + 1) (List.replicate q.1 (.d q.2)) (fun _ => false)
@[simp] theorem mkS_mk {d n : Nat} {z : DV} : mkS S d (n, z) = S.nb d (.bsl (S.fo + d) (S.gen (S.fo + d) + 1) n 1 false) (S.gen (S.fo + d) + 1) (List.replicate n (.d z)) (fun _ => false) := rfl
theorem o_mk {d t : Nat} {l c : Operand} {n : Nat} {z : DV} (hf : ¬ d + 20000 ∈ tr) (h : mkV (apT P t) (S.ev l) (S.ev c) = some (n, z)) :
    ow P tr (some d) (.makeSlice t l c) S K = K (mkS S d (n, z)) := by
  rw [ow_plain (by simp)]
  simp only [effF, csOk, csOp, fpCk, fpOf, Bool.and_self, if_true, effF0, dst1, if_true]
  unfold apT at h
  cases he : elT P t with
  | none => rw [he] at h; simp [mkV] at h
  | some e =>
    rw [he] at h
    simp only at h
    cases hb : bytT P e with
    | none => rw [hb] at h; simp [mkV] at h
    | some b =>
      cases hz : zeroT P e with
      | none => rw [hb, hz] at h; simp [mkV] at h
      | some z' =>
        rw [hb, hz] at h
        simp only at h
        split at h
        · unfold mkV at h
          split at h
          · rename_i k n' k' m hq hl hc
            cases hq
            split at h
            · rename_i hh
              cases h
              simp only [hl, hc, hb, hz, if_pos hh, isFz, List.contains_iff_mem, if_neg hf]
              rfl
            · cases h
          · cases h
        · simp [mkV] at h
/-- A new slice that nobody writes. -/
theorem o_mkF {d t : Nat} {l c : Operand} {n : Nat} {z : DV} (hf : d + 20000 ∈ tr) (h : mkV (apT P t) (S.ev l) (S.ev c) = some (n, z)) :
    ow P tr (some d) (.makeSlice t l c) S K = K (S.q d (.d (.slice (List.replicate n z))) true) := by
  rw [ow_plain (by simp)]
  simp only [effF, csOk, csOp, fpCk, fpOf, Bool.and_self, if_true, effF0, dst1, if_true]
  unfold apT at h
  cases he : elT P t with
  | none => rw [he] at h; simp [mkV] at h
  | some e =>
    rw [he] at h
    simp only at h
    cases hb : bytT P e with
    | none => rw [hb] at h; simp [mkV] at h
    | some b =>
      cases hz : zeroT P e with
      | none => rw [hb, hz] at h; simp [mkV] at h
      | some z' =>
        rw [hb, hz] at h
        simp only at h
        split at h
        · unfold mkV at h
          split at h
          · rename_i k n' k' m hq hl hc
            cases hq
            split at h
            · rename_i hh
              cases h
              simp only [hl, hc, hb, hz, if_pos hh, isFz, List.contains_iff_mem, if_pos hf]
              rfl
            · cases h
          · cases h
        · simp [mkV] at h

/-! ### calls -/
theorem o_call {d : Nat} {f : FuncId} {caps : List PV} {x : Operand} {args : List Operand} {ts : Array TypeId} {r : PV} {ro : Nat → Bool} {as : List PV} (hx : fnOf (S.ev x) = some (f, caps)) (ha : args.map S.ev ++ caps = as) (hH : Holds P f as r ro) (hf : as.all ptrFree = true) (hc : tr.contains (d + 40000) = false)
    (hK : K (S.cl d r ro)) : ow P tr (some d) (.call ⟨.value x, ⟨args⟩, ts⟩) S K := by
  subst ha
  unfold ow owp
  refine ⟨by simp [dstOk], ?_⟩
  rw [hx]
  simp only [isCb, hc]
  exact ⟨hf, r, ro, hH, hK⟩
/-- The boxes are at least as they are asked for. -/
def preOk (S : PS) (pre : List Upd) : Prop := ∀ u ∈ pre, 0 < u.g ∧ S.gen u.n = u.g ∧ S.box u.n = u.c ∧ ∀ k, u.o k = true → S.own (.b u.n k) = true
@[simp] theorem preOk_nil : preOk S [] := by simp [preOk]
@[simp] theorem preOk_cons {u : Upd} {l : List Upd} : preOk S (u :: l) ↔ (0 < u.g ∧ S.gen u.n = u.g ∧ S.box u.n = u.c ∧ ∀ k, u.o k = true → S.own (.b u.n k) = true) ∧ preOk S l := by
  simp [preOk]
theorem Meets.weak {fo : Nat} {gl : Nat → Nat} {f : FuncId} {args : List PV} {pre : List Upd} {r : PV} {ro : Nat → Bool} {post : List Upd} (hp : preOk S pre) (h : Meets P fo gl f args pre r ro post) :
    Meets P fo gl f args ((pre.map (·.n)).map (snap S)) r ro post := by
  obtain ⟨h1, h2, h3, h4, h5⟩ := h
  refine ⟨h1, h2, h3, fun u hu => ?_, fun vs w fr T β hl hS => ?_⟩
  · obtain ⟨n, hn, rfl⟩ := List.mem_map.1 hu
    obtain ⟨v, hv, rfl⟩ := List.mem_map.1 hn
    exact h4 v hv
  · have hf : ∀ n, findU pre n = none ∧ n ∉ pre.map (·.n) ∨ ∃ u, findU pre n = some u ∧ n ∈ pre.map (·.n) ∧ S.gen n = u.g ∧ S.box n = u.c ∧ ∀ k, u.o k = true → S.own (.b n k) = true := by
      intro n
      cases hx : findU pre n with
      | none => exact .inl ⟨rfl, findU_none_of hx⟩
      | some u =>
        obtain ⟨hm, e⟩ := findU_mem_of hx
        obtain ⟨_, q2, q3, q4⟩ := hp u hm
        subst e
        exact .inr ⟨u, rfl, List.mem_map.2 ⟨u, hm, rfl⟩, q2, q3, q4⟩
    have hc := hS.clear fun l => !(PS.startB fo gl args pre).own l
    have e : (PS.startB fo gl args ((pre.map (·.n)).map (snap S))).clear (fun l => !(PS.startB fo gl args pre).own l) = PS.startB fo gl args pre := by
      unfold PS.startB PS.clear
      congr 1
      · funext n
        simp only [findU_snap]
        rcases hf n with ⟨q1, q2⟩ | ⟨u, q1, q2, q3, q4, q5⟩
        · simp only [q1, if_neg q2]
        · simp only [q1, if_pos q2, snap, q4]
      · funext n
        simp only [findU_snap]
        rcases hf n with ⟨q1, q2⟩ | ⟨u, q1, q2, q3, q4, q5⟩
        · simp only [q1, if_neg q2]
        · simp only [q1, if_pos q2, snap, q3]
      · funext l
        cases l with
        | t i j => simp
        | b n k =>
          simp only [findU_snap]
          rcases hf n with ⟨q1, q2⟩ | ⟨u, q1, q2, q3, q4, q5⟩
          · simp [q1]
          · simp only [q1, if_pos q2, snap]
            cases hk : u.o k with
            | false => simp
            | true => simp [q5 k hk]
    rw [e] at hc
    exact h5 vs w fr T β hl hc
def isOutD (tr : List Nat) (d : Option Nat) : Bool := match d with | some d => tr.contains (d + 100000) | none => tr.contains 100000
theorem o_cb (fo : Nat) {d : Option Nat} {f : FuncId} {caps : List PV} {x : Operand} {args : List Operand} {ts : Array TypeId} {r : PV} {ro : Nat → Bool} {as : List PV} {pre post : List Upd} (hx : fnOf (S.ev x) = some (f, caps)) (ha : args.map S.ev ++ caps = as)
    (hH : Meets P fo (fun n => S.gen n + 1) f as pre r ro post) (hc : (match d with | some d => tr.contains (d + 40000) | none => tr.contains 40000) = true) (hp : preOk S pre)
    (hK : K (S.cb d r ro post)) (ho : isOutD tr d = false ∨ ∀ u ∈ post, nws tr S.fo u.n = true := by exact Or.inl rfl) : ow P tr d (.call ⟨.value x, ⟨args⟩, ts⟩) S K := by
  subst ha
  unfold ow owp
  refine ⟨by cases d <;> simp [dstOk], ?_⟩
  rw [hx]
  have hcb : isCb tr { dst := d, op := .call ⟨.value x, ⟨args⟩, ts⟩, type := 0, pos := "", after := #[], guard := none } = true := by
    unfold isCb
    cases d <;> exact hc
  simp only [hcb, if_true]
  refine ⟨pre.map (·.n), fo, r, ro, post, fun n hn => ?_, Meets.weak hp hH, fun hq => ?_, hK⟩
  rotate_left
  · rcases ho with h | h
    · unfold isOut at hq
      unfold isOutD at h
      cases d <;> simp only at hq h <;> rw [h] at hq <;> cases hq
    · exact h
  obtain ⟨u, hu, rfl⟩ := List.mem_map.1 hn
  obtain ⟨q1, q2, _⟩ := hp u hu
  rw [q2]
  exact q1
/-- A call that was handed boxes, of which names and turns are not told. -/
theorem o_cbE {ι : Type} {C : ι → Prop} (fo : Nat) {d : Option Nat} {f : FuncId} {caps : List PV} {x : Operand} {args : List Operand} {ts : Array TypeId} {r : ι → PV} {ro : Nat → Bool} {as : List PV} {pre : List Upd} {post : ι → List Upd} (hx : fnOf (S.ev x) = some (f, caps)) (ha : args.map S.ev ++ caps = as)
    (hH : ∃ i, C i ∧ Meets P fo (fun n => S.gen n + 1) f as pre (r i) ro (post i)) (hc : (match d with | some d => tr.contains (d + 40000) | none => tr.contains 40000) = true) (hp : preOk S pre)
    (hK : ∀ i, C i → K (S.cb d (r i) ro (post i))) (ho : isOutD tr d = false := by exact rfl) : ow P tr d (.call ⟨.value x, ⟨args⟩, ts⟩) S K := by
  obtain ⟨i, hC, hM⟩ := hH
  exact o_cb fo hx ha hM hc hp (hK i hC) (.inl ho)
end

end BoEng
