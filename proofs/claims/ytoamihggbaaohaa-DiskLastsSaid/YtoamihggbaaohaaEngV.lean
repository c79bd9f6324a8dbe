/- The rules for values. -/
import Derived.Test.YtoamihggbaaohaaEngU
namespace BoEng
open Go Go.RowKit

/-- The datum at a place. -/
def nth {α : Type} [Inhabited α] (l : List α) (i : Int) : α := l.getD i.toNat default

/-! reckoning with bits, told in short -/
def andI (k : IntKind) (a b : Int) : Int := k.wrap (BitVec.ofInt k.bits a &&& BitVec.ofInt k.bits b).toNat
def orI (k : IntKind) (a b : Int) : Int := k.wrap (BitVec.ofInt k.bits a ||| BitVec.ofInt k.bits b).toNat
def xorI (k : IntKind) (a b : Int) : Int := k.wrap (BitVec.ofInt k.bits a ^^^ BitVec.ofInt k.bits b).toNat
def andNotI (k : IntKind) (a b : Int) : Int := k.wrap (BitVec.ofInt k.bits a &&& ~~~ BitVec.ofInt k.bits b).toNat
def notI (k : IntKind) (a : Int) : Int := k.wrap (BitVec.ofInt k.bits (if k.signed then -1 else k.max) ^^^ BitVec.ofInt k.bits a).toNat
def shlI (k : IntKind) (a b : Int) : Int := k.wrap (a * 2 ^ (min b.toNat k.bits))
def shrI (k : IntKind) (a b : Int) : Int := a.fdiv (2 ^ (min b.toNat k.bits))

section
variable {P : Program} {tr : List Nat} {S : PS} {K : PS → Prop} {Q : PS → Prop} {l : List CO}

def pickV (c a b : PV) : Option (PV × Bool) := match c with | .d (.bool t) => some (if t then a else b, false) | _ => none
@[simp] theorem qv_pick {c a b : Operand} : qv P S (.pick c a b) = pickV (S.ev c) (S.ev a) (S.ev b) := rfl
@[simp] theorem pickV_t {a b : PV} : pickV (.d (.bool true)) a b = some (a, false) := rfl
@[simp] theorem pickV_f {a b : PV} : pickV (.d (.bool false)) a b = some (b, false) := rfl
theorem pickV_b {t : Bool} {a b : PV} : pickV (.d (.bool t)) a b = some (if t then a else b, false) := rfl
def nilV (x : PV) : Option (PV × Bool) := match x with | .ptr n g o => some (.ptr n g o, false) | .cptr cs => some (.cptr cs, false) | _ => none
@[simp] theorem qv_nil {x : Operand} : qv P S (.nilCheck x) = nilV (S.ev x) := rfl
@[simp] theorem nilV_ptr {n g o : Nat} : nilV (.ptr n g o) = some (.ptr n g o, false) := rfl
@[simp] theorem nilV_cptr {cs : List DV} : nilV (.cptr cs) = some (.cptr cs, false) := rfl
def q1 (r : Option PV) : Option (PV × Bool) := r.map fun r => (r, false)
@[simp] theorem q1_some {r : PV} : q1 (some r) = some (r, false) := rfl
@[simp] theorem qv_bin {op : BinOp} {t t' : TypeId} {x y : Operand} : qv P S (.binOp op t x y t') = q1 (pbin P op t (S.ev x) (S.ev y)) := rfl
@[simp] theorem qv_un {op : UnOp} {t : TypeId} {x : Operand} : qv P S (.unOp op t x) = q1 (pun op (S.ev x)) := rfl
@[simp] theorem pun_not {b : Bool} : pun .not (.d (.bool b)) = some (.d (.bool (!b))) := rfl
@[simp] theorem pun_neg {k : IntKind} {n : Int} : pun .neg (.d (.int k n)) = some (.d (.int k (k.wrap (0 - n)))) := rfl
@[simp] theorem pun_xor {k : IntKind} {n : Int} : pun .xor (.d (.int k n)) = some (.d (.int k (notI k n))) := rfl
@[simp] theorem pbin_add {t : TypeId} {k : IntKind} {a b : Int} : pbin P .add t (.d (.int k a)) (.d (.int k b)) = some (.d (.int k (k.wrap (a + b)))) := by simp [pbin, isShift, cmpI, arI]
@[simp] theorem pbin_sub {t : TypeId} {k : IntKind} {a b : Int} : pbin P .sub t (.d (.int k a)) (.d (.int k b)) = some (.d (.int k (k.wrap (a - b)))) := by simp [pbin, isShift, cmpI, arI]
@[simp] theorem pbin_mul {t : TypeId} {k : IntKind} {a b : Int} : pbin P .mul t (.d (.int k a)) (.d (.int k b)) = some (.d (.int k (k.wrap (a * b)))) := by simp [pbin, isShift, cmpI, arI]
@[simp] theorem pbin_quo {t : TypeId} {k : IntKind} {a b : Int} (h : b ≠ 0) : pbin P .quo t (.d (.int k a)) (.d (.int k b)) = some (.d (.int k (k.wrap (a.tdiv b)))) := by simp [pbin, isShift, cmpI, arI, h]
@[simp] theorem pbin_rem {t : TypeId} {k : IntKind} {a b : Int} (h : b ≠ 0) : pbin P .rem t (.d (.int k a)) (.d (.int k b)) = some (.d (.int k (a.tmod b))) := by simp [pbin, isShift, cmpI, arI, h]
@[simp] theorem pbin_and {t : TypeId} {k : IntKind} {a b : Int} : pbin P .and t (.d (.int k a)) (.d (.int k b)) = some (.d (.int k (andI k a b))) := by simp [pbin, isShift, cmpI, arI, andI]
@[simp] theorem pbin_or {t : TypeId} {k : IntKind} {a b : Int} : pbin P .or t (.d (.int k a)) (.d (.int k b)) = some (.d (.int k (orI k a b))) := by simp [pbin, isShift, cmpI, arI, orI]
@[simp] theorem pbin_xor {t : TypeId} {k : IntKind} {a b : Int} : pbin P .xor t (.d (.int k a)) (.d (.int k b)) = some (.d (.int k (xorI k a b))) := by simp [pbin, isShift, cmpI, arI, xorI]
@[simp] theorem pbin_andNot {t : TypeId} {k : IntKind} {a b : Int} : pbin P .andNot t (.d (.int k a)) (.d (.int k b)) = some (.d (.int k (andNotI k a b))) := by simp [pbin, isShift, cmpI, arI, andNotI]
@[simp] theorem pbin_shl {t : TypeId} {k k' : IntKind} {a b : Int} (h : 0 ≤ b) : pbin P .shl t (.d (.int k a)) (.d (.int k' b)) = some (.d (.int k (shlI k a b))) := by simp [pbin, isShift, shI, shlI, show ¬ b < 0 by omega]
@[simp] theorem pbin_shr {t : TypeId} {k k' : IntKind} {a b : Int} (h : 0 ≤ b) : pbin P .shr t (.d (.int k a)) (.d (.int k' b)) = some (.d (.int k (shrI k a b))) := by simp [pbin, isShift, shI, shrI, show ¬ b < 0 by omega]
@[simp] theorem pbin_eql {t : TypeId} {k : IntKind} {a b : Int} : pbin P .eql t (.d (.int k a)) (.d (.int k b)) = some (.d (.bool (decide (a = b)))) := by simp [pbin, isShift, cmpI]
@[simp] theorem pbin_neq {t : TypeId} {k : IntKind} {a b : Int} : pbin P .neq t (.d (.int k a)) (.d (.int k b)) = some (.d (.bool (!decide (a = b)))) := by simp [pbin, isShift, cmpI]
@[simp] theorem pbin_lss {t : TypeId} {k : IntKind} {a b : Int} : pbin P .lss t (.d (.int k a)) (.d (.int k b)) = some (.d (.bool (decide (a < b)))) := by simp [pbin, isShift, cmpI]
@[simp] theorem pbin_leq {t : TypeId} {k : IntKind} {a b : Int} : pbin P .leq t (.d (.int k a)) (.d (.int k b)) = some (.d (.bool (decide (a ≤ b)))) := by simp [pbin, isShift, cmpI]
@[simp] theorem pbin_gtr {t : TypeId} {k : IntKind} {a b : Int} : pbin P .gtr t (.d (.int k a)) (.d (.int k b)) = some (.d (.bool (decide (b < a)))) := by simp [pbin, isShift, cmpI]
@[simp] theorem pbin_geq {t : TypeId} {k : IntKind} {a b : Int} : pbin P .geq t (.d (.int k a)) (.d (.int k b)) = some (.d (.bool (decide (b ≤ a)))) := by simp [pbin, isShift, cmpI]
theorem pbin_aeql {t : TypeId} {fs : Array Field} {a b : List DV} (h : P.underlying t = some (.struct fs)) (h2 : eqOk P t = true) : pbin P .eql t (.d (.agg a)) (.d (.agg b)) = (eqF P a b fs.toList).map fun r => .d (.bool r) := by simp [pbin, eqA, h, h2]
theorem pbin_aneq {t : TypeId} {fs : Array Field} {a b : List DV} (h : P.underlying t = some (.struct fs)) (h2 : eqOk P t = true) : pbin P .neq t (.d (.agg a)) (.d (.agg b)) = (eqF P a b fs.toList).map fun r => .d (.bool (!r)) := by simp [pbin, eqA, h, h2]
@[simp] theorem pbin_seql {t : TypeId} {a b : List UInt8} : pbin P .eql t (.d (.str a)) (.d (.str b)) = some (.d (.bool (decide (a = b)))) := by simp [pbin, cmpS]
@[simp] theorem pbin_sneq {t : TypeId} {a b : List UInt8} : pbin P .neq t (.d (.str a)) (.d (.str b)) = some (.d (.bool (!decide (a = b)))) := by simp [pbin, cmpS]
@[simp] theorem pbin_slss {t : TypeId} {a b : List UInt8} : pbin P .lss t (.d (.str a)) (.d (.str b)) = some (.d (.bool (strLt a b))) := by simp [pbin, cmpS]
@[simp] theorem pbin_sleq {t : TypeId} {a b : List UInt8} : pbin P .leq t (.d (.str a)) (.d (.str b)) = some (.d (.bool (strLt a b || decide (a = b)))) := by simp [pbin, cmpS]
@[simp] theorem pbin_sgtr {t : TypeId} {a b : List UInt8} : pbin P .gtr t (.d (.str a)) (.d (.str b)) = some (.d (.bool (!(strLt a b || decide (a = b))))) := by simp [pbin, cmpS]
@[simp] theorem pbin_sgeq {t : TypeId} {a b : List UInt8} : pbin P .geq t (.d (.str a)) (.d (.str b)) = some (.d (.bool (!strLt a b))) := by simp [pbin, cmpS]
@[simp] theorem pbin_sadd {t : TypeId} {a b : List UInt8} (h : a.length + b.length ≤ 9223372036854775807) : pbin P .add t (.d (.str a)) (.d (.str b)) = some (.d (.str (a ++ b))) := by simp [pbin, h]
@[simp] theorem pbin_beql {t : TypeId} {a b : Bool} (h : P.underlying t = some .bool) : pbin P .eql t (.d (.bool a)) (.d (.bool b)) = some (.d (.bool (a == b))) := by simp [pbin, h, eqB]
@[simp] theorem pbin_bneq {t : TypeId} {a b : Bool} (h : P.underlying t = some .bool) : pbin P .neq t (.d (.bool a)) (.d (.bool b)) = some (.d (.bool (!(a == b)))) := by simp [pbin, h, eqB]
def isPtrT (u : Option TypeDesc) : Bool := match u with | some (.pointer _) => true | _ => false
def isFnT (u : Option TypeDesc) : Bool := match u with | some (.func ..) => true | _ => false
@[simp] theorem isPtrT_p {e : TypeId} : isPtrT (some (.pointer e)) = true := rfl
theorem nilCmp_p {u : Option TypeDesc} {n g o : Nat} (h : isPtrT u = true) : nilCmp u (.ptr n g o) (.d (.opq (.pointer none))) = some false := by unfold isPtrT at h; split at h <;> first | rfl | cases h
theorem nilCmp_c {u : Option TypeDesc} {c : List DV} (h : isPtrT u = true) : nilCmp u (.cptr c) (.d (.opq (.pointer none))) = some false := by unfold isPtrT at h; split at h <;> first | rfl | cases h
theorem nilCmp_n {u : Option TypeDesc} (h : isPtrT u = true) : nilCmp u (.d (.opq (.pointer none))) (.d (.opq (.pointer none))) = some true := by unfold isPtrT at h; split at h <;> first | rfl | cases h
theorem nilCmp_f {u : Option TypeDesc} {f : FuncId} {c : List PV} (h : isFnT u = true) : nilCmp u (.fn f c) (.d (.opq .nilFunc)) = some false := by unfold isFnT at h; split at h <;> first | rfl | cases h
theorem nilCmp_fn {u : Option TypeDesc} (h : isFnT u = true) : nilCmp u (.d (.opq .nilFunc)) (.d (.opq .nilFunc)) = some true := by unfold isFnT at h; split at h <;> first | rfl | cases h
@[simp] theorem pbin_pn {t : TypeId} {n g o : Nat} (h : isPtrT (P.underlying t) = true) : pbin P .eql t (.ptr n g o) (.d (.opq (.pointer none))) = some (.d (.bool false)) := by simp [pbin, nilCmp_p h]
@[simp] theorem pbin_cn {t : TypeId} {c : List DV} (h : isPtrT (P.underlying t) = true) : pbin P .eql t (.cptr c) (.d (.opq (.pointer none))) = some (.d (.bool false)) := by simp [pbin, nilCmp_c h]
@[simp] theorem pbin_nn {t : TypeId} (h : isPtrT (P.underlying t) = true) : pbin P .eql t (.d (.opq (.pointer none))) (.d (.opq (.pointer none))) = some (.d (.bool true)) := by simp [pbin, nilCmp_n h]
@[simp] theorem pbin_pnn {t : TypeId} {n g o : Nat} (h : isPtrT (P.underlying t) = true) : pbin P .neq t (.ptr n g o) (.d (.opq (.pointer none))) = some (.d (.bool true)) := by simp [pbin, nilCmp_p h]
@[simp] theorem pbin_cnn {t : TypeId} {c : List DV} (h : isPtrT (P.underlying t) = true) : pbin P .neq t (.cptr c) (.d (.opq (.pointer none))) = some (.d (.bool true)) := by simp [pbin, nilCmp_c h]
@[simp] theorem pbin_nnn {t : TypeId} (h : isPtrT (P.underlying t) = true) : pbin P .neq t (.d (.opq (.pointer none))) (.d (.opq (.pointer none))) = some (.d (.bool false)) := by simp [pbin, nilCmp_n h]
@[simp] theorem pbin_fn {t : TypeId} {f : FuncId} {c : List PV} (h : isFnT (P.underlying t) = true) : pbin P .eql t (.fn f c) (.d (.opq .nilFunc)) = some (.d (.bool false)) := by simp [pbin, nilCmp_f h]
@[simp] theorem pbin_fnn {t : TypeId} {f : FuncId} {c : List PV} (h : isFnT (P.underlying t) = true) : pbin P .neq t (.fn f c) (.d (.opq .nilFunc)) = some (.d (.bool true)) := by simp [pbin, nilCmp_f h]
@[simp] theorem pbin_fe {t : TypeId} (h : isFnT (P.underlying t) = true) : pbin P .eql t (.d (.opq .nilFunc)) (.d (.opq .nilFunc)) = some (.d (.bool true)) := by simp [pbin, nilCmp_fn h]
@[simp] theorem pbin_fne {t : TypeId} (h : isFnT (P.underlying t) = true) : pbin P .neq t (.d (.opq .nilFunc)) (.d (.opq .nilFunc)) = some (.d (.bool false)) := by simp [pbin, nilCmp_fn h]
theorem wrap_in {n : Int} (h : -9223372036854775808 ≤ n ∧ n ≤ 9223372036854775807) : IntKind.i64.wrap n = n := by rw [IntKind.wrap_i64]; omega
theorem wrap_u8 {n : Int} (h : 0 ≤ n ∧ n ≤ 255) : IntKind.u8.wrap n = n := by
  unfold IntKind.wrap
  simp [IntKind.bits, IntKind.signed]
  omega
theorem wrap_u32 {n : Int} (h : 0 ≤ n ∧ n ≤ 4294967295) : IntKind.u32.wrap n = n := by
  unfold IntKind.wrap
  simp [IntKind.bits, IntKind.signed]
  omega

/-! fields, places -/
def fieldAddrV (P : Program) (t f : Nat) (gen : Nat → Nat) (x : PV) : Option (PV × Bool) :=
  match fldT P t f, x with
  | some (off, ft), .ptr n g o => if 0 < szT P ft then some (.ptr n g (o + off), false) else none
  | some (off, ft), .cptr cs => if 0 < szT P ft ∧ off < cs.length then some (.cptr (cs.drop off), false) else none
  | _, _ => none
@[simp] theorem qv_fieldAddr {t f : Nat} {x : Operand} : qv P S (.fieldAddr t x f) = fieldAddrV P t f S.gen (S.ev x) := rfl
theorem fieldAddrV_ptr {t f off ft n g o : Nat} {gen : Nat → Nat} (hf : fldT P t f = some (off, ft)) (hs : 0 < szT P ft) : fieldAddrV P t f gen (.ptr n g o) = some (.ptr n g (o + off), false) := by
  simp [fieldAddrV, hf, hs]
theorem fieldAddrV_cptr {t f off ft : Nat} {cs : List DV} {gen : Nat → Nat} (hf : fldT P t f = some (off, ft)) (hs : 0 < szT P ft) (hg : off < cs.length) : fieldAddrV P t f gen (.cptr cs) = some (.cptr (cs.drop off), false) := by
  simp [fieldAddrV, hf, hs, hg]
def fieldV (P : Program) (t f : Nat) (x : PV) : Option (PV × Bool) :=
  match fldT P t f, x with
  | some (off, ft), .d (.agg cs) => (partD P ft cs off).map fun r => (.d r, false)
  | some (off, ft), .pa cs => (partP P ft cs off).map fun r => (r, false)
  | _, _ => none
@[simp] theorem qv_field {t f : Nat} {x : Operand} : qv P S (.field t x f) = fieldV P t f (S.ev x) := rfl
def indexAddrV (P : Program) (t : Nat) (gen : Nat → Nat) (box : Nat → List PV) (x i : PV) : Option (PV × Bool) :=
  match elT P t, x, i with
  | some e, .d (.slice xs), .d (.int _ i) =>
    if 0 ≤ i ∧ i < (xs.length : Int) then
      match xs[i.toNat]? with
      | some x => if (cells x).length = szT P e ∧ 0 < szT P e then some (.cptr (cells x), false) else none
      | none => none
    else none
  | some e, .bsl n g len sz _, .d (.int _ i) => if 0 ≤ i ∧ i < (len : Int) ∧ g = gen n ∧ szT P e = sz ∧ len * sz ≤ (box n).length then some (.ptr n g (i.toNat * sz), false) else none
  | _, _, _ => none
@[simp] theorem qv_indexAddr {t : Nat} {x i : Operand} : qv P S (.indexAddr t x i) = indexAddrV P t S.gen S.box (S.ev x) (S.ev i) := rfl
theorem indexAddrV_map {α : Type} [Inhabited α] {t e : Nat} {gen : Nat → Nat} {box : Nat → List PV} {enc : α → DV} {xs : List α} {k : IntKind} {i : Int} (he : elT P t = some e) (hs : ∀ x, (cells (enc x)).length = szT P e) (hp : 0 < szT P e) (h0 : 0 ≤ i) (h1 : i < xs.length) :
    indexAddrV P t gen box (.d (.slice (xs.map enc))) (.d (.int k i)) = some (.cptr (cells (enc (nth xs i))), false) := by
  have hlt : i.toNat < xs.length := by omega
  unfold indexAddrV
  rw [he]
  simp only [List.length_map, h0, h1, and_self, if_true, List.getElem?_map, List.getElem?_eq_getElem hlt, Option.map_some, hs, hp]
  rw [nth, List.getD_eq_getElem?_getD, List.getElem?_eq_getElem hlt]
  rfl
theorem indexAddrV_bsl {t e n g len sz : Nat} {ag : Bool} {gen : Nat → Nat} {box : Nat → List PV} {k : IntKind} {i : Int} (he : elT P t = some e) (hs : szT P e = sz) (h0 : 0 ≤ i) (h1 : i < len) (hg : g = gen n) (hb : len * sz ≤ (box n).length) :
    indexAddrV P t gen box (.bsl n g len sz ag) (.d (.int k i)) = some (.ptr n g (i.toNat * sz), false) := by
  subst hs hg
  simp [indexAddrV, he, h0, h1, hb]
def indexV (P : Program) (t : Nat) (x i : PV) : Option (PV × Bool) :=
  match P.underlying t, x, i with
  | some .string, .d (.str s), .d (.int _ i) => if 0 ≤ i ∧ i < (s.length : Int) then some (.d (.int .u8 (s.getD i.toNat 0).toNat), false) else none
  | _, _, _ => none
@[simp] theorem qv_index {t : Nat} {x i : Operand} : qv P S (.index t x i) = indexV P t (S.ev x) (S.ev i) := rfl
theorem indexV_str {t : Nat} {s : List UInt8} {k : IntKind} {i : Int} (ht : P.underlying t = some .string) (h0 : 0 ≤ i) (h1 : i < s.length) : indexV P t (.d (.str s)) (.d (.int k i)) = some (.d (.int .u8 (nth s i).toNat), false) := by
  simp only [indexV, ht, h0, h1, and_self, if_true]
  rfl

/-! lengths -/
def lenV (P : Program) (t : Nat) (x : PV) : Option (PV × Bool) :=
  match P.underlying t, x with
  | some (.slice _), .d (.slice xs) => some (.d (.int .i64 xs.length), false)
  | some (.slice _), .bsl _ _ n _ _ => some (.d (.int .i64 n), false)
  | some .string, .d (.str s) => some (.d (.int .i64 s.length), false)
  | _, _ => none
@[simp] theorem qv_len {t : Nat} {x : Operand} : qv P S (.call ⟨.builtin .len, ⟨[x]⟩, ⟨[t]⟩⟩) = lenV P t (S.ev x) := rfl
theorem lenV_slice {t e : Nat} {xs : List DV} (h : P.underlying t = some (.slice e)) : lenV P t (.d (.slice xs)) = some (.d (.int .i64 xs.length), false) := by simp [lenV, h]
theorem lenV_bsl {t e n g k sz : Nat} {ag : Bool} (h : P.underlying t = some (.slice e)) : lenV P t (.bsl n g k sz ag) = some (.d (.int .i64 k), false) := by simp [lenV, h]
theorem lenV_str {t : Nat} {s : List UInt8} (h : P.underlying t = some .string) : lenV P t (.d (.str s)) = some (.d (.int .i64 s.length), false) := by simp [lenV, h]
@[simp] theorem qv_min {a : List Operand} {ts : Array TypeId} : qv P S (.call ⟨.builtin .min, ⟨a⟩, ts⟩) = q1 (minmax false (a.map S.ev)) := rfl
@[simp] theorem qv_max {a : List Operand} {ts : Array TypeId} : qv P S (.call ⟨.builtin .max, ⟨a⟩, ts⟩) = q1 (minmax true (a.map S.ev)) := rfl
@[simp] theorem minmax_cons {mx : Bool} {k : IntKind} {a : Int} {r : List PV} : minmax mx (.d (.int k a) :: r) = mmGo mx k a r := rfl
@[simp] theorem mmGo_nil {mx : Bool} {k : IntKind} {a : Int} : mmGo mx k a [] = some (.d (.int k a)) := rfl
@[simp] theorem mmGo_max {k : IntKind} {a b : Int} {r : List PV} : mmGo true k a (.d (.int k b) :: r) = mmGo true k (if b > a then b else a) r := by simp [mmGo]
@[simp] theorem mmGo_min {k : IntKind} {a b : Int} {r : List PV} : mmGo false k a (.d (.int k b) :: r) = mmGo false k (if b < a then b else a) r := by simp [mmGo]

/-! what is made, cut, turned -/
def eSz (P : Program) (t : Nat) : Nat := match elT P t with | some e => szT P e | none => 0
def hiV (top : Nat) (x : Option PV) : Option Nat := match x with | none => some top | some (.d (.int _ i)) => if 0 ≤ i ∧ i ≤ (top : Int) then some i.toNat else none | _ => none
def loV (top : Nat) (x : Option PV) : Option Nat := match x with | none => some 0 | some (.d (.int _ i)) => if 0 ≤ i ∧ i ≤ (top : Int) then some i.toNat else none | _ => none
@[simp] theorem hiV_none {top : Nat} : hiV top none = some top := rfl
@[simp] theorem loV_none {top : Nat} : loV top none = some 0 := rfl
@[simp] theorem hiV_ok {top : Nat} {k : IntKind} {i : Int} (h : 0 ≤ i ∧ i ≤ (top : Int)) : hiV top (some (.d (.int k i))) = some i.toNat := if_pos h
@[simp] theorem loV_ok {top : Nat} {k : IntKind} {i : Int} (h : 0 ≤ i ∧ i ≤ (top : Int)) : loV top (some (.d (.int k i))) = some i.toNat := if_pos h
def slL (xs : List DV) (h l : Nat) : PV × Bool := (.d (.slice ((xs.take h).drop l)), false)
@[simp] theorem slL_eq {xs : List DV} {h l : Nat} : slL xs h l = (.d (.slice ((xs.take h).drop l)), false) := rfl
def slH (xs : List DV) (lo : Option PV) (h : Nat) : Option (PV × Bool) := (loV h lo).map (slL xs h)
@[simp] theorem slH_eq {xs : List DV} {lo : Option PV} {h : Nat} : slH xs lo h = (loV h lo).map (slL xs h) := rfl
def sl3L (xs : List DV) (m h l : Nat) : PV × Bool := (.d (.slice ((xs.take h).drop l)), m == h)
@[simp] theorem sl3L_eq {xs : List DV} {m h l : Nat} : sl3L xs m h l = (.d (.slice ((xs.take h).drop l)), m == h) := rfl
def sl3H (xs : List DV) (lo : Option PV) (m h : Nat) : Option (PV × Bool) := (loV h lo).map (sl3L xs m h)
@[simp] theorem sl3H_eq {xs : List DV} {lo : Option PV} {m h : Nat} : sl3H xs lo m h = (loV h lo).map (sl3L xs m h) := rfl
def sl3M (xs : List DV) (lo : Option PV) (hi : PV) (m : Nat) : Option (PV × Bool) := (hiV m (some hi)).bind (sl3H xs lo m)
@[simp] theorem sl3M_eq {xs : List DV} {lo : Option PV} {hi : PV} {m : Nat} : sl3M xs lo hi m = (hiV m (some hi)).bind (sl3H xs lo m) := rfl
def ssL (s : List UInt8) (h l : Nat) : PV × Bool := (.d (.str ((s.take h).drop l)), false)
@[simp] theorem ssL_eq {s : List UInt8} {h l : Nat} : ssL s h l = (.d (.str ((s.take h).drop l)), false) := rfl
def ssH (s : List UInt8) (lo : Option PV) (h : Nat) : Option (PV × Bool) := (loV h lo).map (ssL s h)
@[simp] theorem ssH_eq {s : List UInt8} {lo : Option PV} {h : Nat} : ssH s lo h = (loV h lo).map (ssL s h) := rfl
def sliceV (P : Program) (t : Nat) (x : PV) (lo hi mx : Option PV) : Option (PV × Bool) :=
  match x with
  | .d (.slice xs) =>
    if szOk (eSz P t) xs = true ∧ 0 < eSz P t then
      match mx, hi with
      | none, hi => (hiV xs.length hi).bind (slH xs lo)
      | some m, some h => (hiV xs.length (some m)).bind (sl3M xs lo h)
      | some _, none => none
    else none
  | .d (.str s) => match mx, P.underlying t with | none, some .string => (hiV s.length hi).bind (ssH s lo) | _, _ => none
  | _ => none
@[simp] theorem sliceV_2 {t : Nat} {xs : List DV} {lo hi : Option PV} : sliceV P t (.d (.slice xs)) lo hi none = if szOk (eSz P t) xs = true ∧ 0 < eSz P t then (hiV xs.length hi).bind (slH xs lo) else none := rfl
@[simp] theorem sliceV_3 {t : Nat} {xs : List DV} {lo : Option PV} {h m : PV} : sliceV P t (.d (.slice xs)) lo (some h) (some m) = if szOk (eSz P t) xs = true ∧ 0 < eSz P t then (hiV xs.length (some m)).bind (sl3M xs lo h) else none := rfl
@[simp] theorem sliceV_s {t : Nat} {s : List UInt8} {lo hi : Option PV} (h : P.underlying t = some .string) : sliceV P t (.d (.str s)) lo hi none = (hiV s.length hi).bind (ssH s lo) := by
  simp only [sliceV, h]
theorem bnd_hi {top : Nat} {x : Operand} : bnd S top x = hiV top (some (S.ev x)) := by
  unfold bnd hiV
  cases S.ev x with
  | d y => cases y <;> rfl
  | _ => rfl
theorem bnd_lo {top : Nat} {x : Operand} : bnd S top x = loV top (some (S.ev x)) := by
  unfold bnd loV
  cases S.ev x with
  | d y => cases y <;> rfl
  | _ => rfl
theorem loB_V {top : Nat} {x : Option Operand} : loB S top x = loV top (x.map S.ev) := by
  cases x with
  | none => rfl
  | some x => exact bnd_lo
theorem hiB_V {top : Nat} {x : Option Operand} : hiB S top x = hiV top (x.map S.ev) := by
  cases x with
  | none => rfl
  | some x => exact bnd_hi
theorem map_bind {α β : Type} (o : Option α) (f : α → β) : (o.bind fun x => some (f x)) = o.map f := by cases o <;> rfl
@[simp] theorem qv_slice {t : Nat} {x : Operand} {lo hi mx : Option Operand} : qv P S (.slice t x lo hi mx) = sliceV P t (S.ev x) (lo.map S.ev) (hi.map S.ev) (mx.map S.ev) := by
  show sliceD P S t x lo hi mx = _
  unfold sliceD sliceV
  cases S.ev x with
  | d y =>
    cases y with
    | slice xs =>
      simp only
      unfold eSz
      cases elT P t with
      | none => simp
      | some e =>
        simp only
        by_cases hc : szOk (szT P e) xs = true ∧ 0 < szT P e
        · rw [if_pos hc, if_pos hc]
          cases mx with
          | none =>
            simp only [hiB_V, loB_V, Option.map_none]
            congr 1
            funext h
            exact map_bind _ _
          | some m =>
            cases hi with
            | none => rfl
            | some hv =>
              simp only [bnd_hi, loB_V, Option.map_some]
              congr 1
              funext m
              rw [sl3M_eq]
              congr 1
              funext h
              exact map_bind _ _
        · rw [if_neg hc, if_neg hc]
    | str s =>
      simp only
      cases mx with
      | none =>
        cases P.underlying t with
        | none => rfl
        | some u =>
          cases u <;> first | rfl | (simp only [hiB_V, loB_V, Option.map_none]; congr 1; funext h; exact map_bind _ _)
      | some m => rfl
    | _ => rfl
  | _ => rfl
theorem map_take' {α β : Type} {f : α → β} {l : List α} {i : Nat} : (l.map f).take i = (l.take i).map f := List.map_take.symm
theorem map_drop' {α β : Type} {f : α → β} {l : List α} {i : Nat} : (l.map f).drop i = (l.drop i).map f := List.map_drop.symm
@[simp] theorem szOk_map {α : Type} {sz : Nat} {enc : α → DV} {xs : List α} (h : ∀ x, (cells (enc x)).length = sz) : szOk sz (xs.map enc) = true := by simp [szOk, h]
@[simp] theorem szOk_nil {sz : Nat} : szOk sz [] = true := rfl
@[simp] theorem szOk_cons {sz : Nat} {x : DV} {xs : List DV} : szOk sz (x :: xs) = ((cells x).length == sz && szOk sz xs) := rfl
@[simp] theorem szOk_append {sz : Nat} {xs ys : List DV} : szOk sz (xs ++ ys) = (szOk sz xs && szOk sz ys) := by simp [szOk]
@[simp] theorem cells_int {k : IntKind} {n : Int} : cells (.int k n) = [.int k n] := rfl
@[simp] theorem cells_bool {b : Bool} : cells (.bool b) = [.bool b] := rfl
@[simp] theorem cells_str {s : List UInt8} : cells (.str s) = [.str s] := rfl
@[simp] theorem cells_slice {xs : List DV} : cells (.slice xs) = [.slice xs] := rfl
@[simp] theorem cells_agg {cs : List DV} : cells (.agg cs) = cs := rfl
def mkB (r : Option (List PV)) : Option (PV × Bool) := r.map fun cs => (mkA cs, false)
@[simp] theorem mkB_some {cs : List PV} : mkB (some cs) = some (mkA cs, false) := rfl
def buildV (P : Program) (S : PS) (t : Nat) (ps : List (Nat × Operand)) : Option (PV × Bool) :=
  match zeroT P t with
  | some (.agg z) => if z.toList.all (·.oneCell') = true ∧ fldsOk P t = true then mkB (buildP P S t ps (z.toList.map fun c => .d (ofConstD c))) else none
  | _ => none
@[simp] theorem qv_build {t : Nat} {ps : List (Nat × Operand)} : qv P S (.build t ⟨ps⟩) = buildV P S t ps := rfl
def zstr (P : Program) (t : Nat) : Option (List DV) :=
  match zeroT P t with
  | some (.agg z) => if z.toList.all (·.oneCell') = true ∧ fldsOk P t = true then some (z.toList.map ofConstD) else none
  | _ => none
def buildZ (P : Program) (S : PS) (t : Nat) (ps : List (Nat × Operand)) (z : Option (List DV)) : Option (PV × Bool) := match z with | some cs => mkB (buildP P S t ps (cs.map .d)) | none => none
@[simp] theorem buildZ_s {t : Nat} {ps : List (Nat × Operand)} {cs : List DV} : buildZ P S t ps (some cs) = mkB (buildP P S t ps (cs.map .d)) := rfl
@[simp] theorem buildV_z {t : Nat} {ps : List (Nat × Operand)} : buildV P S t ps = buildZ P S t ps (zstr P t) := by
  unfold zstr buildV
  split
  · rename_i z hz
    by_cases hc : z.toList.all (·.oneCell') = true ∧ fldsOk P t = true
    · rw [if_pos hc, if_pos hc]
      simp only [buildZ, List.map_map]
      rfl
    · rw [if_neg hc, if_neg hc]
      rfl
  · rfl
@[simp] theorem buildP_nil {t : Nat} {cs : List PV} : buildP P S t [] cs = some cs := rfl
def buildSliceV (P : Program) (S : PS) (t len : Nat) (ps : List (Nat × Operand)) : Option (PV × Bool) :=
  match elT P t with
  | some e => if ps.length = len ∧ len * szT P e ≤ 16777216 ∧ 0 < szT P e ∧ (zeroT P e).isSome then (elemsD S (szT P e) 0 ps).map fun xs => (.d (.slice xs), true) else none
  | none => none
@[simp] theorem qv_buildSlice {t n : Nat} {ps : List (Nat × Operand)} : qv P S (.buildSlice t n ⟨ps⟩) = buildSliceV P S t n ps := rfl
@[simp] theorem elemsD_nil {sz k : Nat} : elemsD S sz k [] = some [] := rfl
theorem elemsD_cons {sz k : Nat} {x : Operand} {r : List (Nat × Operand)} {v : DV} (hx : S.ev x = .d v) (h1 : (cells v).length = sz) : elemsD S sz k ((k, x) :: r) = (elemsD S sz (k + 1) r).map (v :: ·) := by
  rw [elemsD, hx]
  simp [h1]
@[simp] theorem qv_makeFunc {f : Nat} {a : List Operand} : qv P S (.makeFunc (.func f) ⟨[]⟩ ⟨a⟩) = some (.fn f (a.map S.ev), false) := rfl
def convertV (P : Program) (src dst : Nat) (x : PV) : Option (PV × Bool) :=
  match P.underlying src, P.underlying dst, x with
  | some (.int _), some (.int k), .d (.int _ n) => some (.d (.int k (k.wrap n)), false)
  | some .string, some .string, .d (.str s) => some (.d (.str s), false)
  | some (.slice e), some .string, .d (.slice xs) =>
    match P.underlying e with
    | some (.int .u8) => (toBytes xs).map fun s => (.d (.str s), false)
    | _ => none
  | some .string, some (.slice e), .d (.str s) =>
    match P.underlying e with
    | some (.int .u8) => if szT P e = 1 then some (.d (.slice (s.map fun b => .int .u8 b.toNat)), false) else none
    | _ => none
  | _, _, _ => none
@[simp] theorem qv_convert {s t : Nat} {x : Operand} : qv P S (.convert s t x) = convertV P s t (S.ev x) := rfl

end

end BoEng
