/- The rules for values. -/
import Derived.Test.YtkiccmpebcjhlaaEngU
namespace BoEng
open Go Go.RowKit

/-- The datum at a place. -/
def nth {α : Type} [Inhabited α] (l : List α) (i : Int) : α := l.getD i.toNat default

section
variable {P : Program} {tr : List Nat} {S : PS} {K : PS → Prop} {Q : PS → Prop} {l : List CO}

def pickV (c a b : PV) : Option (PV × Bool) := match c with | .d (.bool t) => some (if t then a else b, false) | _ => none
@[simp] theorem qv_pick {c a b : Operand} : qv P S (.pick c a b) = pickV (S.ev c) (S.ev a) (S.ev b) := rfl
@[simp] theorem pickV_t {a b : PV} : pickV (.d (.bool true)) a b = some (a, false) := rfl
@[simp] theorem pickV_f {a b : PV} : pickV (.d (.bool false)) a b = some (b, false) := rfl
theorem pickV_b {t : Bool} {a b : PV} : pickV (.d (.bool t)) a b = some (if t then a else b, false) := rfl
def nilV (x : PV) : Option (PV × Bool) := match x with | .ptr n g o => some (.ptr n g o, false) | .cptr cs => some (.cptr cs, false) | _ => none
@[simp] theorem qv_nil {x : Operand} : qv P S (.nilCheck x) = nilV (S.ev x) := rfl
@[simp] theorem nilV_ptr {n g o : Nat} : nilV (.ptr n g o) = some (.ptr n g o, false) := rfl
@[simp] theorem nilV_cptr {cs : List DV} : nilV (.cptr cs) = some (.cptr cs, false) := rfl
def q1 (r : Option PV) : Option (PV × Bool) := r.map fun r => (r, false)
@[simp] theorem q1_some {r : PV} : q1 (some r) = some (r, false) := rfl
@[simp] theorem qv_bin {op : BinOp} {t t' : TypeId} {x y : Operand} : qv P S (.binOp op t x y t') = q1 (pbin P op t (S.ev x) (S.ev y)) := rfl
@[simp] theorem qv_un {op : UnOp} {t : TypeId} {x : Operand} : qv P S (.unOp op t x) = q1 (pun op (S.ev x)) := rfl
@[simp] theorem pun_not {b : Bool} : pun .not (.d (.bool b)) = some (.d (.bool (!b))) := rfl
@[simp] theorem pun_neg {k : IntKind} {n : Int} : pun .neg (.d (.int k n)) = some (.d (.int k (k.wrap (0 - n)))) := rfl
@[simp] theorem pun_xor {k : IntKind} {n : Int} : pun .xor (.d (.int k n)) = some (.d (.int k (k.wrap (BitVec.ofInt k.bits (if k.signed then -1 else k.max) ^^^ BitVec.ofInt k.bits n).toNat))) := rfl
@[simp] theorem pbin_add {t : TypeId} {k : IntKind} {a b : Int} : pbin P .add t (.d (.int k a)) (.d (.int k b)) = some (.d (.int k (k.wrap (a + b)))) := by simp [pbin, isShift, cmpI, arI]
@[simp] theorem pbin_sub {t : TypeId} {k : IntKind} {a b : Int} : pbin P .sub t (.d (.int k a)) (.d (.int k b)) = some (.d (.int k (k.wrap (a - b)))) := by simp [pbin, isShift, cmpI, arI]
@[simp] theorem pbin_mul {t : TypeId} {k : IntKind} {a b : Int} : pbin P .mul t (.d (.int k a)) (.d (.int k b)) = some (.d (.int k (k.wrap (a * b)))) := by simp [pbin, isShift, cmpI, arI]
@[simp] theorem pbin_quo {t : TypeId} {k : IntKind} {a b : Int} (h : b ≠ 0) : pbin P .quo t (.d (.int k a)) (.d (.int k b)) = some (.d (.int k (k.wrap (a.tdiv b)))) := by simp [pbin, isShift, cmpI, arI, h]
@[simp] theorem pbin_rem {t : TypeId} {k : IntKind} {a b : Int} (h : b ≠ 0) : pbin P .rem t (.d (.int k a)) (.d (.int k b)) = some (.d (.int k (a.tmod b))) := by simp [pbin, isShift, cmpI, arI, h]
@[simp] theorem pbin_and {t : TypeId} {k : IntKind} {a b : Int} : pbin P .and t (.d (.int k a)) (.d (.int k b)) = some (.d (.int k (k.wrap (BitVec.ofInt k.bits a &&& BitVec.ofInt k.bits b).toNat))) := by simp [pbin, isShift, cmpI, arI]
@[simp] theorem pbin_or {t : TypeId} {k : IntKind} {a b : Int} : pbin P .or t (.d (.int k a)) (.d (.int k b)) = some (.d (.int k (k.wrap (BitVec.ofInt k.bits a ||| BitVec.ofInt k.bits b).toNat))) := by simp [pbin, isShift, cmpI, arI]
@[simp] theorem pbin_xor {t : TypeId} {k : IntKind} {a b : Int} : pbin P .xor t (.d (.int k a)) (.d (.int k b)) = some (.d (.int k (k.wrap (BitVec.ofInt k.bits a ^^^ BitVec.ofInt k.bits b).toNat))) := by simp [pbin, isShift, cmpI, arI]
@[simp] theorem pbin_andNot {t : TypeId} {k : IntKind} {a b : Int} : pbin P .andNot t (.d (.int k a)) (.d (.int k b)) = some (.d (.int k (k.wrap (BitVec.ofInt k.bits a &&& ~~~ BitVec.ofInt k.bits b).toNat))) := by simp [pbin, isShift, cmpI, arI]
@[simp] theorem pbin_shl {t : TypeId} {k k' : IntKind} {a b : Int} (h : 0 ≤ b) : pbin P .shl t (.d (.int k a)) (.d (.int k' b)) = some (.d (.int k (k.wrap (a * 2 ^ (min b.toNat k.bits))))) := by simp [pbin, isShift, shI, show ¬ b < 0 by omega]
@[simp] theorem pbin_shr {t : TypeId} {k k' : IntKind} {a b : Int} (h : 0 ≤ b) : pbin P .shr t (.d (.int k a)) (.d (.int k' b)) = some (.d (.int k (a.fdiv (2 ^ (min b.toNat k.bits))))) := by simp [pbin, isShift, shI, show ¬ b < 0 by omega]
@[simp] theorem pbin_eql {t : TypeId} {k : IntKind} {a b : Int} : pbin P .eql t (.d (.int k a)) (.d (.int k b)) = some (.d (.bool (decide (a = b)))) := by simp [pbin, isShift, cmpI]
@[simp] theorem pbin_neq {t : TypeId} {k : IntKind} {a b : Int} : pbin P .neq t (.d (.int k a)) (.d (.int k b)) = some (.d (.bool (!decide (a = b)))) := by simp [pbin, isShift, cmpI]
@[simp] theorem pbin_lss {t : TypeId} {k : IntKind} {a b : Int} : pbin P .lss t (.d (.int k a)) (.d (.int k b)) = some (.d (.bool (decide (a < b)))) := by simp [pbin, isShift, cmpI]
@[simp] theorem pbin_leq {t : TypeId} {k : IntKind} {a b : Int} : pbin P .leq t (.d (.int k a)) (.d (.int k b)) = some (.d (.bool (decide (a ≤ b)))) := by simp [pbin, isShift, cmpI]
@[simp] theorem pbin_gtr {t : TypeId} {k : IntKind} {a b : Int} : pbin P .gtr t (.d (.int k a)) (.d (.int k b)) = some (.d (.bool (decide (b < a)))) := by simp [pbin, isShift, cmpI]
@[simp] theorem pbin_geq {t : TypeId} {k : IntKind} {a b : Int} : pbin P .geq t (.d (.int k a)) (.d (.int k b)) = some (.d (.bool (decide (b ≤ a)))) := by simp [pbin, isShift, cmpI]
theorem pbin_aeql {t : TypeId} {fs : Array Field} {a b : List DV} (h : P.underlying t = some (.struct fs)) (h2 : eqOk P t = true) : pbin P .eql t (.d (.agg a)) (.d (.agg b)) = (eqF P a b fs.toList).map fun r => .d (.bool r) := by simp [pbin, eqA, h, h2]
theorem pbin_aneq {t : TypeId} {fs : Array Field} {a b : List DV} (h : P.underlying t = some (.struct fs)) (h2 : eqOk P t = true) : pbin P .neq t (.d (.agg a)) (.d (.agg b)) = (eqF P a b fs.toList).map fun r => .d (.bool (!r)) := by simp [pbin, eqA, h, h2]
@[simp] theorem pbin_seql {t : TypeId} {a b : List UInt8} : pbin P .eql t (.d (.str a)) (.d (.str b)) = some (.d (.bool (decide (a = b)))) := by simp [pbin, cmpS]
@[simp] theorem pbin_sneq {t : TypeId} {a b : List UInt8} : pbin P .neq t (.d (.str a)) (.d (.str b)) = some (.d (.bool (!decide (a = b)))) := by simp [pbin, cmpS]
@[simp] theorem pbin_slss {t : TypeId} {a b : List UInt8} : pbin P .lss t (.d (.str a)) (.d (.str b)) = some (.d (.bool (strLt a b))) := by simp [pbin, cmpS]
@[simp] theorem pbin_sleq {t : TypeId} {a b : List UInt8} : pbin P .leq t (.d (.str a)) (.d (.str b)) = some (.d (.bool (strLt a b || decide (a = b)))) := by simp [pbin, cmpS]
@[simp] theorem pbin_sgtr {t : TypeId} {a b : List UInt8} : pbin P .gtr t (.d (.str a)) (.d (.str b)) = some (.d (.bool (!(strLt a b || decide (a = b))))) := by simp [pbin, cmpS]
@[simp] theorem pbin_sgeq {t : TypeId} {a b : List UInt8} : pbin P .geq t (.d (.str a)) (.d (.str b)) = some (.d (.bool (!strLt a b))) := by simp [pbin, cmpS]
@[simp] theorem pbin_sadd {t : TypeId} {a b : List UInt8} (h : a.length + b.length ≤ 9223372036854775807) : pbin P .add t (.d (.str a)) (.d (.str b)) = some (.d (.str (a ++ b))) := by simp [pbin, h]
@[simp] theorem pbin_beql {t : TypeId} {a b : Bool} (h : P.underlying t = some .bool) : pbin P .eql t (.d (.bool a)) (.d (.bool b)) = some (.d (.bool (a == b))) := by simp [pbin, h, eqB]
@[simp] theorem pbin_bneq {t : TypeId} {a b : Bool} (h : P.underlying t = some .bool) : pbin P .neq t (.d (.bool a)) (.d (.bool b)) = some (.d (.bool (!(a == b)))) := by simp [pbin, h, eqB]
theorem wrap_in {n : Int} (h : -9223372036854775808 ≤ n ∧ n ≤ 9223372036854775807) : IntKind.i64.wrap n = n := by rw [IntKind.wrap_i64]; omega
theorem wrap_u8 {n : Int} (h : 0 ≤ n ∧ n ≤ 255) : IntKind.u8.wrap n = n := by
  unfold IntKind.wrap
  simp [IntKind.bits, IntKind.signed]
  omega
theorem wrap_u32 {n : Int} (h : 0 ≤ n ∧ n ≤ 4294967295) : IntKind.u32.wrap n = n := by
  unfold IntKind.wrap
  simp [IntKind.bits, IntKind.signed]
  omega

/-! fields, places -/
def fieldAddrV (P : Program) (t f : Nat) (gen : Nat → Nat) (x : PV) : Option (PV × Bool) :=
  match fldT P t f, x with
  | some (off, ft), .ptr n g o => if g = gen n ∧ 0 < szT P ft then some (.ptr n g (o + off), false) else none
  | some (off, ft), .cptr cs => if 0 < szT P ft ∧ off < cs.length then some (.cptr (cs.drop off), false) else none
  | _, _ => none
@[simp] theorem qv_fieldAddr {t f : Nat} {x : Operand} : qv P S (.fieldAddr t x f) = fieldAddrV P t f S.gen (S.ev x) := rfl
theorem fieldAddrV_ptr {t f off ft n g o : Nat} {gen : Nat → Nat} (hf : fldT P t f = some (off, ft)) (hs : 0 < szT P ft) (hg : g = gen n) : fieldAddrV P t f gen (.ptr n g o) = some (.ptr n g (o + off), false) := by
  simp [fieldAddrV, hf, hs, hg]
theorem fieldAddrV_cptr {t f off ft : Nat} {cs : List DV} {gen : Nat → Nat} (hf : fldT P t f = some (off, ft)) (hs : 0 < szT P ft) (hg : off < cs.length) : fieldAddrV P t f gen (.cptr cs) = some (.cptr (cs.drop off), false) := by
  simp [fieldAddrV, hf, hs, hg]
def fieldV (P : Program) (t f : Nat) (x : PV) : Option (PV × Bool) :=
  match fldT P t f, x with
  | some (off, ft), .d (.agg cs) => (partD P ft cs off).map fun r => (.d r, false)
  | _, _ => none
@[simp] theorem qv_field {t f : Nat} {x : Operand} : qv P S (.field t x f) = fieldV P t f (S.ev x) := rfl
def indexAddrV (P : Program) (t : Nat) (gen : Nat → Nat) (x i : PV) : Option (PV × Bool) :=
  match elT P t, x, i with
  | some e, .d (.slice xs), .d (.int _ i) =>
    if 0 ≤ i ∧ i < (xs.length : Int) then
      match xs[i.toNat]? with
      | some x => if (cells x).length = szT P e ∧ 0 < szT P e then some (.cptr (cells x), false) else none
      | none => none
    else none
  | some e, .bsl n g len, .d (.int _ i) => if 0 ≤ i ∧ i < (len : Int) ∧ g = gen n ∧ szT P e = 1 then some (.ptr n g i.toNat, false) else none
  | _, _, _ => none
@[simp] theorem qv_indexAddr {t : Nat} {x i : Operand} : qv P S (.indexAddr t x i) = indexAddrV P t S.gen (S.ev x) (S.ev i) := rfl
theorem indexAddrV_map {α : Type} [Inhabited α] {t e : Nat} {gen : Nat → Nat} {enc : α → DV} {xs : List α} {k : IntKind} {i : Int} (he : elT P t = some e) (hs : ∀ x, (cells (enc x)).length = szT P e) (hp : 0 < szT P e) (h0 : 0 ≤ i) (h1 : i < xs.length) :
    indexAddrV P t gen (.d (.slice (xs.map enc))) (.d (.int k i)) = some (.cptr (cells (enc (nth xs i))), false) := by
  have hlt : i.toNat < xs.length := by omega
  unfold indexAddrV
  rw [he]
  simp only [List.length_map, h0, h1, and_self, if_true, List.getElem?_map, List.getElem?_eq_getElem hlt, Option.map_some, hs, hp]
  rw [nth, List.getD_eq_getElem?_getD, List.getElem?_eq_getElem hlt]
  rfl
theorem indexAddrV_bsl {t e n g len : Nat} {gen : Nat → Nat} {k : IntKind} {i : Int} (he : elT P t = some e) (hs : szT P e = 1) (h0 : 0 ≤ i) (h1 : i < len) (hg : g = gen n) :
    indexAddrV P t gen (.bsl n g len) (.d (.int k i)) = some (.ptr n g i.toNat, false) := by
  simp [indexAddrV, he, hs, h0, h1, hg]
def indexV (P : Program) (t : Nat) (x i : PV) : Option (PV × Bool) :=
  match P.underlying t, x, i with
  | some .string, .d (.str s), .d (.int _ i) => if 0 ≤ i ∧ i < (s.length : Int) then some (.d (.int .u8 (s.getD i.toNat 0).toNat), false) else none
  | _, _, _ => none
@[simp] theorem qv_index {t : Nat} {x i : Operand} : qv P S (.index t x i) = indexV P t (S.ev x) (S.ev i) := rfl
theorem indexV_str {t : Nat} {s : List UInt8} {k : IntKind} {i : Int} (ht : P.underlying t = some .string) (h0 : 0 ≤ i) (h1 : i < s.length) : indexV P t (.d (.str s)) (.d (.int k i)) = some (.d (.int .u8 (nth s i).toNat), false) := by
  simp only [indexV, ht, h0, h1, and_self, if_true]
  rfl

/-! lengths -/
def lenV (P : Program) (t : Nat) (x : PV) : Option (PV × Bool) :=
  match P.underlying t, x with
  | some (.slice _), .d (.slice xs) => some (.d (.int .i64 xs.length), false)
  | some (.slice _), .bsl _ _ n => some (.d (.int .i64 n), false)
  | some .string, .d (.str s) => some (.d (.int .i64 s.length), false)
  | _, _ => none
@[simp] theorem qv_len {t : Nat} {x : Operand} : qv P S (.call ⟨.builtin .len, ⟨[x]⟩, ⟨[t]⟩⟩) = lenV P t (S.ev x) := rfl
theorem lenV_slice {t e : Nat} {xs : List DV} (h : P.underlying t = some (.slice e)) : lenV P t (.d (.slice xs)) = some (.d (.int .i64 xs.length), false) := by simp [lenV, h]
theorem lenV_bsl {t e n g k : Nat} (h : P.underlying t = some (.slice e)) : lenV P t (.bsl n g k) = some (.d (.int .i64 k), false) := by simp [lenV, h]
theorem lenV_str {t : Nat} {s : List UInt8} (h : P.underlying t = some .string) : lenV P t (.d (.str s)) = some (.d (.int .i64 s.length), false) := by simp [lenV, h]
@[simp] theorem qv_min {a : List Operand} {ts : Array TypeId} : qv P S (.call ⟨.builtin .min, ⟨a⟩, ts⟩) = q1 (minmax false (a.map S.ev)) := rfl
@[simp] theorem qv_max {a : List Operand} {ts : Array TypeId} : qv P S (.call ⟨.builtin .max, ⟨a⟩, ts⟩) = q1 (minmax true (a.map S.ev)) := rfl
@[simp] theorem minmax_cons {mx : Bool} {k : IntKind} {a : Int} {r : List PV} : minmax mx (.d (.int k a) :: r) = mmGo mx k a r := rfl
@[simp] theorem mmGo_nil {mx : Bool} {k : IntKind} {a : Int} : mmGo mx k a [] = some (.d (.int k a)) := rfl
@[simp] theorem mmGo_max {k : IntKind} {a b : Int} {r : List PV} : mmGo true k a (.d (.int k b) :: r) = mmGo true k (if b > a then b else a) r := by simp [mmGo]
@[simp] theorem mmGo_min {k : IntKind} {a b : Int} {r : List PV} : mmGo false k a (.d (.int k b) :: r) = mmGo false k (if b < a then b else a) r := by simp [mmGo]

/-! what is made, cut, turned -/
@[simp] theorem qv_slice {t : Nat} {x : Operand} {lo hi mx : Option Operand} : qv P S (.slice t x lo hi mx) = sliceD P S t x lo hi mx := rfl
@[simp] theorem bnd_eq {S : PS} {top : Nat} {x : Operand} {k : IntKind} {i : Int} (h : S.ev x = .d (.int k i)) (h0 : 0 ≤ i) (h1 : i ≤ (top : Int)) : bnd S top x = some i.toNat := by simp [bnd, h, h0, h1]
@[simp] theorem loB_none {top : Nat} : loB S top none = some 0 := rfl
@[simp] theorem hiB_none {top : Nat} : hiB S top none = some top := rfl
@[simp] theorem loB_some {top : Nat} {x : Operand} : loB S top (some x) = bnd S top x := rfl
@[simp] theorem hiB_some {top : Nat} {x : Operand} : hiB S top (some x) = bnd S top x := rfl
@[simp] theorem szOk_map {α : Type} {sz : Nat} {enc : α → DV} {xs : List α} (h : ∀ x, (cells (enc x)).length = sz) : szOk sz (xs.map enc) = true := by simp [szOk, h]
@[simp] theorem szOk_nil {sz : Nat} : szOk sz [] = true := rfl
@[simp] theorem szOk_cons {sz : Nat} {x : DV} {xs : List DV} : szOk sz (x :: xs) = ((cells x).length == sz && szOk sz xs) := rfl
@[simp] theorem szOk_append {sz : Nat} {xs ys : List DV} : szOk sz (xs ++ ys) = (szOk sz xs && szOk sz ys) := by simp [szOk]
@[simp] theorem cells_int {k : IntKind} {n : Int} : cells (.int k n) = [.int k n] := rfl
@[simp] theorem cells_bool {b : Bool} : cells (.bool b) = [.bool b] := rfl
@[simp] theorem cells_str {s : List UInt8} : cells (.str s) = [.str s] := rfl
@[simp] theorem cells_slice {xs : List DV} : cells (.slice xs) = [.slice xs] := rfl
@[simp] theorem cells_agg {cs : List DV} : cells (.agg cs) = cs := rfl
def buildV (P : Program) (S : PS) (t : Nat) (ps : List (Nat × Operand)) : Option (PV × Bool) :=
  match zeroT P t with
  | some (.agg z) => if z.toList.all (·.oneCell') = true ∧ fldsOk P t = true then (buildD P S t ps (z.toList.map ofConstD)).map fun cs => (.d (.agg cs), false) else none
  | _ => none
@[simp] theorem qv_build {t : Nat} {ps : List (Nat × Operand)} : qv P S (.build t ⟨ps⟩) = buildV P S t ps := rfl
def zstr (P : Program) (t : Nat) : Option (List DV) :=
  match zeroT P t with
  | some (.agg z) => if z.toList.all (·.oneCell') = true ∧ fldsOk P t = true then some (z.toList.map ofConstD) else none
  | _ => none
@[simp] theorem buildV_z {t : Nat} {ps : List (Nat × Operand)} {cs : List DV} (h : zstr P t = some cs) : buildV P S t ps = (buildD P S t ps cs).map fun cs => (.d (.agg cs), false) := by
  unfold zstr at h
  unfold buildV
  split at h
  · rename_i z hz
    split at h
    · rename_i hc
      cases h
      rw [if_pos hc]
    · cases h
  · cases h
@[simp] theorem buildD_nil {t : Nat} {cs : List DV} : buildD P S t [] cs = some cs := rfl
theorem buildD_cons {t i off ft : Nat} {x : Operand} {r : List (Nat × Operand)} {cs : List DV} {v : DV} (hf : fldT P t i = some (off, ft)) (hx : S.ev x = .d v) (h1 : (cells v).length = szT P ft) (h2 : off + (cells v).length ≤ cs.length) :
    buildD P S t ((i, x) :: r) cs = buildD P S t r (cs.take off ++ cells v ++ cs.drop (off + (cells v).length)) := by
  rw [buildD, hf, hx]
  simp only [h1, true_and]
  rw [if_pos (by omega)]
def buildSliceV (P : Program) (S : PS) (t len : Nat) (ps : List (Nat × Operand)) : Option (PV × Bool) :=
  match elT P t with
  | some e => if ps.length = len ∧ len * szT P e ≤ 16777216 ∧ 0 < szT P e ∧ (zeroT P e).isSome then (elemsD S (szT P e) 0 ps).map fun xs => (.d (.slice xs), true) else none
  | none => none
@[simp] theorem qv_buildSlice {t n : Nat} {ps : List (Nat × Operand)} : qv P S (.buildSlice t n ⟨ps⟩) = buildSliceV P S t n ps := rfl
@[simp] theorem elemsD_nil {sz k : Nat} : elemsD S sz k [] = some [] := rfl
theorem elemsD_cons {sz k : Nat} {x : Operand} {r : List (Nat × Operand)} {v : DV} (hx : S.ev x = .d v) (h1 : (cells v).length = sz) : elemsD S sz k ((k, x) :: r) = (elemsD S sz (k + 1) r).map (v :: ·) := by
  rw [elemsD, hx]
  simp [h1]
@[simp] theorem qv_makeFunc {f : Nat} {a : List Operand} : qv P S (.makeFunc (.func f) ⟨[]⟩ ⟨a⟩) = some (.fn f (a.map S.ev), false) := rfl
def convertV (P : Program) (src dst : Nat) (x : PV) : Option (PV × Bool) :=
  match P.underlying src, P.underlying dst, x with
  | some (.int _), some (.int k), .d (.int _ n) => some (.d (.int k (k.wrap n)), false)
  | some .string, some .string, .d (.str s) => some (.d (.str s), false)
  | some (.slice e), some .string, .d (.slice xs) =>
    match P.underlying e with
    | some (.int .u8) => (toBytes xs).map fun s => (.d (.str s), false)
    | _ => none
  | some .string, some (.slice e), .d (.str s) =>
    match P.underlying e with
    | some (.int .u8) => if szT P e = 1 then some (.d (.slice (s.map fun b => .int .u8 b.toNat)), false) else none
    | _ => none
  | _, _, _ => none
@[simp] theorem qv_convert {s t : Nat} {x : Operand} : qv P S (.convert s t x) = convertV P s t (S.ev x) := rfl

/-! loads, stores, boxes, appends -/
theorem ow_plainE {d : Option Nat} {op : Op} (hc : ∀ x a t, op ≠ .call ⟨.value x, a, t⟩) : ow P tr d op S K = (match effF P (d.getD 0 + 1) tr S { dst := d, op := op, type := 0, pos := "", after := #[], guard := none } with | some E => K (E.apply S) | none => False) := by
  unfold ow owp
  cases op with
  | call c =>
    obtain ⟨cal, a, t⟩ := c
    cases cal with
    | value x => exact absurd rfl (hc x a t)
    | _ => rfl
  | _ => rfl
def loadV (P : Program) (gen : Nat → Nat) (box : Nat → List PV) (t : TypeId) (x : PV) : Option PV :=
  match x with
  | .ptr n g o =>
    if g = gen n ∧ 0 < szT P t ∧ o + szT P t ≤ (box n).length then
      match aggT P t with
      | some true => (toD (((box n).drop o).take (szT P t))).map fun c => .d (.agg c)
      | some false => if szT P t = 1 then (box n)[o]? else none
      | none => none
    else none
  | .cptr cs => (partD P t cs 0).map .d
  | _ => none
theorem loadPV_eq {t : TypeId} {x : Operand} : loadPV P S t x = loadV P S.gen S.box t (S.ev x) := rfl
theorem ow_load {d : Nat} {t : TypeId} {x : Operand} (h : ¬ d ∈ tr) : ow P tr (some d) (.load t x) S K = onL (loadV P S.gen S.box t (S.ev x)) fun r => K (S.set d r) := by
  rw [ow_plainE (by simp)]
  have : effF P ((some d).getD 0 + 1) tr S { dst := some d, op := .load t x, type := 0, pos := "", after := #[], guard := none } = (loadV P S.gen S.box t (S.ev x)).map fun r => ⟨some d, r, fun _ => false, fun _ => false, none⟩ := by
    simp only [effF, dstOk, isTr, loadPV_eq, h, List.contains_iff_mem]
    simp only [Option.getD_some, Nat.lt_add_one, decide_true, if_true, if_false]
    cases loadV P S.gen S.box t (S.ev x) <;> rfl
  rw [this]
  cases loadV P S.gen S.box t (S.ev x) with
  | none => simp [onL]
  | some r => simp [onL, apply_set]
theorem ow_loadT {d n g o : Nat} {t : TypeId} {x : Operand} (h : d ∈ tr) (hx : S.ev x = .ptr n g o) (ha : aggT P t = some false) : ow P tr (some d) (.load t x) S K = onL (loadV P S.gen S.box t (S.ev x)) fun r => K (S.putO d r (fun j => j == 0 && S.own (.b n o)) (fun l => l == .b n o)) := by
  rw [ow_plainE (by simp)]
  have : effF P ((some d).getD 0 + 1) tr S { dst := some d, op := .load t x, type := 0, pos := "", after := #[], guard := none } = (loadV P S.gen S.box t (S.ev x)).map fun r => ⟨some d, r, fun j => j == 0 && S.own (.b n o), fun l => l == .b n o, none⟩ := by
    simp only [effF, dstOk, isTr, loadPV_eq, h, List.contains_iff_mem, hx, ha]
    simp only [Option.getD_some, Nat.lt_add_one, decide_true, if_true]
    cases loadV P S.gen S.box t (.ptr n g o) <;> rfl
  rw [this]
  cases loadV P S.gen S.box t (S.ev x) with
  | none => simp [onL]
  | some r => simp [onL, apply_putO]
theorem ow_extract {d s k : Nat} {ps : List PV} {p : PV} (hs : S.t s = .tup ps) (hp : ps[k]? = some p) (hpt : ∀ q, p ≠ .tup q) : ow P tr (some d) (.extract (.tmp s) k) S K = K (S.putO d p (fun j => j == 0 && S.own (.t s k)) (fun l => l == .t s k)) := by
  rw [ow_plainE (by simp)]
  have : effF P ((some d).getD 0 + 1) tr S { dst := some d, op := .extract (.tmp s) k, type := 0, pos := "", after := #[], guard := none } = some ⟨some d, p, fun j => j == 0 && S.own (.t s k), fun l => l == .t s k, none⟩ := by
    simp only [effF, dstOk, hs, hp]
    simp only [Option.getD_some, Nat.lt_add_one, decide_true, if_true]
    try (cases p <;> first | rfl | exact absurd rfl (hpt _))
  rw [this]
  simp [apply_putO]
def zeroC (P : Program) (e : TypeId) : Option (List DV) := match zeroT P e with | some z => if z.cells.toList.all (·.oneCell') = true then some (z.cells.toList.map ofConstD) else none | none => none
def nilC (P : Program) (e : TypeId) (k : Nat) : Bool := match zeroT P e with | some z => isNilV (z.cells.getD k undef) | none => false
theorem ow_alloc {d : Nat} {e : TypeId} : ow P tr (some d) (.alloc e) S K = onC (zeroC P e) fun c => K (S.putB (some d) (.ptr (FO + d) (S.gen (FO + d) + 1) 0) (FO + d) (S.gen (FO + d) + 1) (c.map .d) (nilC P e) (fun _ => false)) := by
  rw [ow_plainE (by simp)]
  unfold zeroC nilC
  cases hz : zeroT P e with
  | none => simp [effF, dstOk, hz, onC]
  | some z =>
    by_cases hall : z.cells.toList.all (·.oneCell') = true
    · have : effF P ((some d).getD 0 + 1) tr S { dst := some d, op := .alloc e, type := 0, pos := "", after := #[], guard := none } = some ⟨some d, .ptr (FO + d) (S.gen (FO + d) + 1) 0, fun _ => false, fun _ => false, some (FO + d, S.gen (FO + d) + 1, z.cells.toList.map fun c => .d (ofConstD c), fun k => isNilV (z.cells.getD k undef))⟩ := by
        simp only [effF, dstOk, hz]
        simp only [Option.getD_some, Nat.lt_add_one, decide_true, if_true]
        rw [if_pos hall]
      rw [this]
      simp only [if_pos hall, apply_putB, onC_some, List.map_map]
      rfl
    · have : effF P ((some d).getD 0 + 1) tr S { dst := some d, op := .alloc e, type := 0, pos := "", after := #[], guard := none } = none := by
        simp only [effF, dstOk, hz]
        simp only [Option.getD_some, Nat.lt_add_one, decide_true, if_true]
        rw [if_neg hall]
      rw [this]
      simp only [if_neg hall]
      simp [onC]
theorem ow_box {d : Nat} {e : TypeId} {x : Operand} : ow P tr (some d) (.box e x) S K = onC (pcells (S.ev x)) fun c => K (S.putB (some d) (.ptr (FO + d) (S.gen (FO + d) + 1) 0) (FO + d) (S.gen (FO + d) + 1) c (fun _ => false) (fun _ => false)) := by
  rw [ow_plainE (by simp)]
  cases hc : pcells (S.ev x) with
  | none => simp [effF, dstOk, hc, onC]
  | some c => simp [effF, dstOk, hc, onC, apply_putB]
def ownS (S : PS) (v : Operand) : Bool := match v with
  | .tmp s => S.own (.t s 0) && (match S.t s with | .d (.slice _) => true | _ => false)
  | .const c => isNilV c
  | _ => false
def clrS (v : Operand) : Loc → Bool := match v with | .tmp s => slotOf s | _ => fun _ => false
theorem ow_store {t : TypeId} {x v : Operand} {n g o : Nat} {cs : List PV} (hx : S.ev x = .ptr n g o) (hc : pcells (S.ev v) = some cs) (hg : g = S.gen n) (hsz : cs.length = szT P t) (hpos : 0 < szT P t) (hle : o + cs.length ≤ (S.box n).length) :
    ow P tr none (.store t x v) S K = K (S.putB none .undef n g ((S.box n).take o ++ cs ++ (S.box n).drop (o + cs.length)) (fun k => if o ≤ k ∧ k < o + cs.length then (match v with | .tmp s => cs.length == 1 && S.own (.t s 0) && (match S.ev v with | .d (.slice _) => true | _ => false) | .const c => isNilV c | _ => false) else S.own (.b n k)) (clrS v)) := by
  rw [ow_plainE (by simp)]
  cases v with
  | tmp s =>
    have : effF P ((none : Option Nat).getD 0 + 1) tr S { dst := none, op := .store t x (.tmp s), type := 0, pos := "", after := #[], guard := none } = some ⟨none, .undef, fun _ => false, slotOf s, some (n, g, (S.box n).take o ++ cs ++ (S.box n).drop (o + cs.length), fun k => if o ≤ k ∧ k < o + cs.length then cs.length == 1 && S.own (.t s 0) && (match S.ev (.tmp s) with | .d (.slice _) => true | _ => false) else S.own (.b n k))⟩ := by
      simp only [effF, dstOk, hx, hc]
      simp only [if_true]
      rw [if_pos ⟨hg, hsz, hpos, hle⟩]
      rfl
    rw [this]
    simp only [apply_putB]
    rfl
  | const c =>
    have : effF P ((none : Option Nat).getD 0 + 1) tr S { dst := none, op := .store t x (.const c), type := 0, pos := "", after := #[], guard := none } = some ⟨none, .undef, fun _ => false, fun _ => false, some (n, g, (S.box n).take o ++ cs ++ (S.box n).drop (o + cs.length), fun k => if o ≤ k ∧ k < o + cs.length then isNilV c else S.own (.b n k))⟩ := by
      simp only [effF, dstOk, hx, hc]
      simp only [if_true]
      rw [if_pos ⟨hg, hsz, hpos, hle⟩]
    rw [this]
    simp only [apply_putB]
    rfl
  | global q =>
    have : effF P ((none : Option Nat).getD 0 + 1) tr S { dst := none, op := .store t x (.global q), type := 0, pos := "", after := #[], guard := none } = some ⟨none, .undef, fun _ => false, fun _ => false, some (n, g, (S.box n).take o ++ cs ++ (S.box n).drop (o + cs.length), fun k => if o ≤ k ∧ k < o + cs.length then false else S.own (.b n k))⟩ := by
      simp only [effF, dstOk, hx, hc]
      simp only [if_true]
      rw [if_pos ⟨hg, hsz, hpos, hle⟩]
    rw [this]
    simp only [apply_putB]
    rfl
  | func q =>
    have : effF P ((none : Option Nat).getD 0 + 1) tr S { dst := none, op := .store t x (.func q), type := 0, pos := "", after := #[], guard := none } = some ⟨none, .undef, fun _ => false, fun _ => false, some (n, g, (S.box n).take o ++ cs ++ (S.box n).drop (o + cs.length), fun k => if o ≤ k ∧ k < o + cs.length then false else S.own (.b n k))⟩ := by
      simp only [effF, dstOk, hx, hc]
      simp only [if_true]
      rw [if_pos ⟨hg, hsz, hpos, hle⟩]
    rw [this]
    simp only [apply_putB]
    rfl
theorem ow_append {d s t tx e : Nat} {x : Operand} {xs ys : List DV} {by_ : Nat} {z : Value} (hs : S.t s = .d (.slice xs)) (he : elT P t = some e) (hsrc : appSrc P S e x tx = some ys) (hb : bytT P e = some by_) (hz : zeroT P e = some z)
    (hown : S.own (.t s 0) = true) (hzs : z.cells.size = szT P e) (h1 : szOk (szT P e) xs = true) (h2 : szOk (szT P e) ys = true) (hp : 0 < szT P e) (hb0 : 0 < by_) (hlen : (xs.length + ys.length) * by_ ≤ 140737488355328) :
    ow P tr (some d) (.call ⟨.builtin .append, ⟨[.tmp s, x]⟩, ⟨[t, tx]⟩⟩) S K = K (S.putO d (.d (.slice (xs ++ ys))) (fun j => j == 0) (slotOf s)) := by
  rw [ow_plainE (by simp)]
  have : effF P ((some d).getD 0 + 1) tr S { dst := some d, op := .call ⟨.builtin .append, ⟨[.tmp s, x]⟩, ⟨[t, tx]⟩⟩, type := 0, pos := "", after := #[], guard := none } = some ⟨some d, .d (.slice (xs ++ ys)), fun j => j == 0, slotOf s, none⟩ := by
    simp only [effF, dstOk, appEff]
    simp only [Option.getD_some, Nat.lt_add_one, decide_true, if_true, he, hs, hsrc, hb, hz]
    rw [if_pos ⟨hown, hzs, h1, h2, hp, hb0, hlen⟩]
  rw [this]
  simp [apply_putO]
theorem ow_makeSlice {d t e : Nat} {l c : Operand} {k k' : IntKind} {n : Int} {z : Value} {by_ : Nat} (he : elT P t = some e) (hl : S.ev l = .d (.int k n)) (hc : S.ev c = .d (.int k' n)) (hz : zeroT P e = some z) (hb : bytT P e = some by_)
    (h0 : 0 ≤ n) (hn : n ≤ 9223372036854775807) (hnb : n * by_ ≤ 281474976710656) (hs : szT P e = 1) (h1 : z.oneCell' = true) :
    ow P tr (some d) (.makeSlice t l c) S K = K (S.putB (some d) (.bsl (FO + d) (S.gen (FO + d) + 1) n.toNat) (FO + d) (S.gen (FO + d) + 1) (List.replicate n.toNat (.d (ofConstD z))) (fun _ => false) (fun _ => false)) := by
  rw [ow_plainE (by simp)]
  have : effF P ((some d).getD 0 + 1) tr S { dst := some d, op := .makeSlice t l c, type := 0, pos := "", after := #[], guard := none } = some ⟨some d, .bsl (FO + d) (S.gen (FO + d) + 1) n.toNat, fun _ => false, fun _ => false, some (FO + d, S.gen (FO + d) + 1, List.replicate n.toNat (.d (ofConstD z)), fun _ => false)⟩ := by
    simp only [effF, dstOk, he, hl, hc, hz, hb]
    simp only [Option.getD_some, Nat.lt_add_one, decide_true, if_true]
    rw [if_pos ⟨trivial, h0, hn, hnb, hs, h1⟩]
  rw [this]
  simp [apply_putB]
/-- A call. -/
theorem ow_call {d : Option Nat} {x : Operand} {f : FuncId} {caps : List PV} {args : List Operand} {ts : Array TypeId} {r : PV} {ro : Nat → Bool} {as : List PV} (hx : S.ev x = .fn f caps) (ha : args.map S.ev ++ caps = as) (hf : as.all ptrFree = true) (hH : Holds P f as r ro)
    (hK : K (match d with | some d => S.putO d r ro (fun _ => false) | none => S)) : ow P tr d (.call ⟨.value x, ⟨args⟩, ts⟩) S K := by
  subst ha
  unfold ow owp
  refine ⟨by cases d <;> simp [dstOk], ?_⟩
  rw [hx]
  refine ⟨hf, r, ro, hH, ?_⟩
  unfold callE
  cases d with
  | some d => rw [apply_putO]; exact hK
  | none =>
    have : ((⟨none, r, ro, fun _ => false, none⟩ : Eff).apply S) = S := by
      obtain ⟨t, b, g, o⟩ := S
      simp only [Eff.apply]
      congr 1
      funext l
      cases l <;> simp
    rw [this]
    exact hK
end

end BoEng
