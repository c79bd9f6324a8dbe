/- The operations on states. -/
import Derived.Test.YtkiccmpebcjhlaaEngC
namespace BoEng
open Go Go.RowKit

/-! ### What is asked of the types -/
def szT (P : Program) (t : TypeId) : Nat := match (Go.sizeOf t).run P default with | .ok n _ => n | _ => 0
def bytT (P : Program) (t : TypeId) : Option Nat := match (typeInfo t).run P default with | .ok i _ => some i.bytes | _ => none
def zeroT (P : Program) (t : TypeId) : Option Value := match (typeInfo t).run P default with | .ok i _ => i.zero | _ => none
def hasT (P : Program) (t : TypeId) : Bool := match (typeInfo t).run P default with | .ok _ _ => true | _ => false
def fldsOk (P : Program) (t : TypeId) : Bool := match P.underlying t with | some (.struct fs) => fs.toList.all fun f => hasT P f.type | _ => false
def aggT (P : Program) (t : TypeId) : Option Bool := match P.underlying t with | some (.struct _) => some true | some (.array _ _) => some true | some _ => some false | none => none
def elT (P : Program) (t : TypeId) : Option TypeId := match P.underlying t with | some (.slice e) => some e | _ => none
def fldT (P : Program) (t : TypeId) (f : Nat) : Option (Nat × TypeId) := match P.underlying t with | some (.struct fs) => (fs[f]?).map fun x => (x.offset, x.type) | _ => none

/-! ### Operands -/
def ofConstD : Value → DV
  | .int k n => .int k n
  | .bool b => .bool b
  | .string s => .str s.data.toList
  | .slice none 0 0 => .slice []
  | v => .opq v
def ofConst : Value → PV
  | .agg vs => if vs.toList.all (·.oneCell') then .d (.agg (vs.toList.map ofConstD)) else .any
  | .tuple vs => if vs.size = 0 then .tup [] else .any
  | v => .d (ofConstD v)
def isNilV : Value → Bool
  | .slice none 0 0 => true
  | _ => false

def PS.ev (S : PS) : Operand → PV
  | .tmp t => S.t t
  | .const v => ofConst v
  | .global _ => .any
  | .func f => .fn f []

def pcells : PV → Option (List PV)
  | .d x => some ((cells x).map .d)
  | .ptr n g o => some [.ptr n g o]
  | .cptr cs => some [.cptr cs]
  | .bsl n g l => some [.bsl n g l]
  | .fn f c => some [.fn f c]
  | _ => none

def toD : List PV → Option (List DV)
  | [] => some []
  | .d x :: r => (toD r).map (x :: ·)
  | _ => none

def toBytes : List DV → Option (List UInt8)
  | [] => some []
  | .int .u8 n :: r => (toBytes r).map (UInt8.ofNat n.toNat :: ·)
  | _ => none

/-! ### Reckoning -/
def cmpI (op : BinOp) (a b : Int) : Option Bool :=
  match op with
  | .eql => some (decide (a = b))
  | .neq => some (!decide (a = b))
  | .lss => some (decide (a < b))
  | .leq => some (decide (a ≤ b))
  | .gtr => some (decide (b < a))
  | .geq => some (decide (b ≤ a))
  | _ => none
def arI (op : BinOp) (k : IntKind) (a b : Int) : Option Int :=
  match op with
  | .add => some (k.wrap (a + b))
  | .sub => some (k.wrap (a - b))
  | .mul => some (k.wrap (a * b))
  | .quo => if b = 0 then none else some (k.wrap (a.tdiv b))
  | .rem => if b = 0 then none else some (a.tmod b)
  | .and => some (k.wrap (BitVec.ofInt k.bits a &&& BitVec.ofInt k.bits b).toNat)
  | .or => some (k.wrap (BitVec.ofInt k.bits a ||| BitVec.ofInt k.bits b).toNat)
  | .xor => some (k.wrap (BitVec.ofInt k.bits a ^^^ BitVec.ofInt k.bits b).toNat)
  | .andNot => some (k.wrap (BitVec.ofInt k.bits a &&& ~~~ BitVec.ofInt k.bits b).toNat)
  | _ => none
def shI (op : BinOp) (k : IntKind) (a b : Int) : Option Int :=
  if b < 0 then none else
  match op with
  | .shl => some (k.wrap (a * 2 ^ (min b.toNat k.bits)))
  | .shr => some (a.fdiv (2 ^ (min b.toNat k.bits)))
  | _ => none
/-- Strings in order, byte by byte. -/
def strLt (a b : List UInt8) : Bool := Op.bytesLess a b
def cmpS (op : BinOp) (a b : List UInt8) : Option Bool :=
  match op with
  | .eql => some (decide (a = b))
  | .neq => some (!decide (a = b))
  | .lss => some (strLt a b)
  | .leq => some (strLt a b || decide (a = b))
  | .gtr => some (!(strLt a b || decide (a = b)))
  | .geq => some (!strLt a b)
  | _ => none
def isShift : BinOp → Bool
  | .shl => true
  | .shr => true
  | _ => false
def eqB (op : BinOp) (a b : Bool) : Option Bool :=
  match op with
  | .eql => some (a == b)
  | .neq => some (!(a == b))
  | _ => none
/-- Two cells of one type. -/
def eqV (u : Option TypeDesc) (x y : Option DV) : Option Bool :=
  match u, x, y with
  | some (.int _), some (.int k a), some (.int k' b) => if k = k' then some (decide (a = b)) else none
  | some .bool, some (.bool a), some (.bool b) => some (a == b)
  | some .string, some (.str a), some (.str b) => some (decide (a = b))
  | _, _, _ => none
/-- Two structs, field by field. -/
def eqF (P : Program) (xs ys : List DV) : List Field → Option Bool
  | [] => some true
  | f :: fs => if f.name = "_" then none else (eqV (P.underlying f.type) xs[f.offset]? ys[f.offset]?).bind fun b => (eqF P xs ys fs).map fun r => b && r
def eqOk (P : Program) (t : TypeId) : Bool := !P.stoodInHeld t && !P.eqGuardType P.depth t
def eqA (P : Program) (t : TypeId) (xs ys : List DV) : Option Bool :=
  match P.underlying t with
  | some (.struct fs) => if eqOk P t then eqF P xs ys fs.toList else none
  | _ => none
def pbin (P : Program) (op : BinOp) (t : TypeId) (x y : PV) : Option PV :=
  match x, y with
  | .d (.agg xs), .d (.agg ys) =>
    match op with
    | .eql => (eqA P t xs ys).map fun r => .d (.bool r)
    | .neq => (eqA P t xs ys).map fun r => .d (.bool (!r))
    | _ => none
  | .d (.int k a), .d (.int k' b) =>
    if isShift op then (shI op k a b).map fun r => .d (.int k r)
    else if k = k' then
      match cmpI op a b with
      | some r => some (.d (.bool r))
      | none => (arI op k a b).map fun r => .d (.int k r)
    else none
  | .d (.str a), .d (.str b) =>
    match op with
    | .add => if a.length + b.length ≤ 9223372036854775807 then some (.d (.str (a ++ b))) else none
    | op => (cmpS op a b).map fun r => .d (.bool r)
  | .d (.bool a), .d (.bool b) =>
    match P.underlying t with
    | some .bool => (eqB op a b).map fun r => .d (.bool r)
    | _ => none
  | _, _ => none
def pun (op : UnOp) (x : PV) : Option PV :=
  match op, x with
  | .not, .d (.bool b) => some (.d (.bool (!b)))
  | .neg, .d (.int k n) => some (.d (.int k (k.wrap (0 - n))))
  | .xor, .d (.int k n) => some (.d (.int k (k.wrap (BitVec.ofInt k.bits (if k.signed then -1 else k.max) ^^^ BitVec.ofInt k.bits n).toNat)))
  | _, _ => none

/-! ### Parts -/
def partD (P : Program) (t : TypeId) (cs : List DV) (off : Nat) : Option DV :=
  match aggT P t with
  | some true => if 0 < szT P t ∧ off + szT P t ≤ cs.length then some (.agg ((cs.drop off).take (szT P t))) else none
  | some false => cs[off]?
  | none => none
def bnd (S : PS) (top : Nat) (x : Operand) : Option Nat :=
  match S.ev x with
  | .d (.int _ i) => if 0 ≤ i ∧ i ≤ (top : Int) then some i.toNat else none
  | _ => none
def loB (S : PS) (top : Nat) : Option Operand → Option Nat
  | some v => bnd S top v
  | none => some 0
def hiB (S : PS) (top : Nat) : Option Operand → Option Nat
  | some v => bnd S top v
  | none => some top
def szOk (sz : Nat) (xs : List DV) : Bool := xs.all fun x => (cells x).length == sz
def sliceD (P : Program) (S : PS) (t : TypeId) (x : Operand) (lo hi mx : Option Operand) : Option (PV × Bool) :=
  match S.ev x with
  | .d (.slice xs) =>
    match elT P t with
    | none => none
    | some e =>
      if szOk (szT P e) xs = true ∧ 0 < szT P e then
        match mx with
        | none => (hiB S xs.length hi).bind fun h => (loB S h lo).bind fun l => some (.d (.slice ((xs.take h).drop l)), false)
        | some m =>
          match hi with
          | none => none
          | some hv => (bnd S xs.length m).bind fun m => (bnd S m hv).bind fun h => (loB S h lo).bind fun l => some (.d (.slice ((xs.take h).drop l)), m == h)
      else none
  | .d (.str s) =>
    match mx, P.underlying t with
    | none, some .string => (hiB S s.length hi).bind fun h => (loB S h lo).bind fun l => some (.d (.str ((s.take h).drop l)), false)
    | _, _ => none
  | _ => none
def buildD (P : Program) (S : PS) (t : TypeId) : List (Nat × Operand) → List DV → Option (List DV)
  | [], cs => some cs
  | (i, x) :: r, cs =>
    match fldT P t i, S.ev x with
    | some (off, ft), .d v => if (cells v).length = szT P ft ∧ off + (cells v).length ≤ cs.length then buildD P S t r (cs.take off ++ cells v ++ cs.drop (off + (cells v).length)) else none
    | _, _ => none
def elemsD (S : PS) (sz : Nat) : Nat → List (Nat × Operand) → Option (List DV)
  | _, [] => some []
  | k, (i, x) :: r =>
    match S.ev x with
    | .d v => if i = k ∧ (cells v).length = sz then (elemsD S sz (k + 1) r).map (v :: ·) else none
    | _ => none
def loadPV (P : Program) (S : PS) (t : TypeId) (x : Operand) : Option PV :=
  match S.ev x with
  | .ptr n g o =>
    if g = S.gen n ∧ 0 < szT P t ∧ o + szT P t ≤ (S.box n).length then
      match aggT P t with
      | some true => (toD (((S.box n).drop o).take (szT P t))).map fun c => .d (.agg c)
      | some false => if szT P t = 1 then (S.box n)[o]? else none
      | none => none
    else none
  | .cptr cs => (partD P t cs 0).map .d
  | _ => none
def mmGo (mx : Bool) (k : IntKind) : Int → List PV → Option PV
  | a, [] => some (.d (.int k a))
  | a, .d (.int k' b) :: r => if k = k' then mmGo mx k (if mx then (if b > a then b else a) else (if b < a then b else a)) r else none
  | _, _ => none
def minmax (mx : Bool) : List PV → Option PV
  | .d (.int k a) :: r => mmGo mx k a r
  | _ => none

/-- Values that write nothing; the second part: is it a slice without room (one's own)? -/
def effV (P : Program) (S : PS) (o : Oper) : Option (PV × Bool) :=
  match o.op with
  | .pick c a b => match S.ev c with | .d (.bool t) => some (if t then S.ev a else S.ev b, false) | _ => none
  | .nilCheck x => match S.ev x with | .ptr n g o => some (.ptr n g o, false) | .cptr cs => some (.cptr cs, false) | _ => none
  | .binOp op t x y _ => (pbin P op t (S.ev x) (S.ev y)).map fun r => (r, false)
  | .unOp op _ x => (pun op (S.ev x)).map fun r => (r, false)
  | .fieldAddr t x f =>
    match fldT P t f, S.ev x with
    | some (off, ft), .ptr n g o => if g = S.gen n ∧ 0 < szT P ft then some (.ptr n g (o + off), false) else none
    | some (off, ft), .cptr cs => if 0 < szT P ft ∧ off < cs.length then some (.cptr (cs.drop off), false) else none
    | _, _ => none
  | .field t x f =>
    match fldT P t f, S.ev x with
    | some (off, ft), .d (.agg cs) => (partD P ft cs off).map fun r => (.d r, false)
    | _, _ => none
  | .indexAddr t x i =>
    match elT P t, S.ev x, S.ev i with
    | some e, .d (.slice xs), .d (.int _ i) =>
      if 0 ≤ i ∧ i < (xs.length : Int) then
        match xs[i.toNat]? with
        | some x => if (cells x).length = szT P e ∧ 0 < szT P e then some (.cptr (cells x), false) else none
        | none => none
      else none
    | some e, .bsl n g len, .d (.int _ i) => if 0 ≤ i ∧ i < (len : Int) ∧ g = S.gen n ∧ szT P e = 1 then some (.ptr n g i.toNat, false) else none
    | _, _, _ => none
  | .index t x i =>
    match P.underlying t, S.ev x, S.ev i with
    | some .string, .d (.str s), .d (.int _ i) => if 0 ≤ i ∧ i < (s.length : Int) then some (.d (.int .u8 (s.getD i.toNat 0).toNat), false) else none
    | _, _, _ => none
  | .slice t x lo hi mx => sliceD P S t x lo hi mx
  | .build t ps =>
    match zeroT P t with
    | some (.agg z) => if z.toList.all (·.oneCell') = true ∧ fldsOk P t = true then (buildD P S t ps.toList (z.toList.map ofConstD)).map fun cs => (.d (.agg cs), false) else none
    | _ => none
  | .buildSlice t len ps =>
    match elT P t with
    | some e => if ps.size = len ∧ len * szT P e ≤ 16777216 ∧ 0 < szT P e ∧ (zeroT P e).isSome then (elemsD S (szT P e) 0 ps.toList).map fun xs => (.d (.slice xs), true) else none
    | none => none
  | .makeFunc (.func f) first caps => if first.size = 0 then some (.fn f (caps.toList.map S.ev), false) else none
  | .convert src dst x =>
    match P.underlying src, P.underlying dst, S.ev x with
    | some (.int _), some (.int k), .d (.int _ n) => some (.d (.int k (k.wrap n)), false)
    | some .string, some .string, .d (.str s) => some (.d (.str s), false)
    | some (.slice e), some .string, .d (.slice xs) =>
      match P.underlying e with
      | some (.int .u8) => (toBytes xs).map fun s => (.d (.str s), false)
      | _ => none
    | some .string, some (.slice e), .d (.str s) =>
      match P.underlying e with
      | some (.int .u8) => if szT P e = 1 then some (.d (.slice (s.map fun b => .int .u8 b.toNat)), false) else none
      | _ => none
    | _, _, _ => none
  | .call { callee := .builtin .len, args, argTypes } =>
    match args.toList, argTypes.toList with
    | [x], [t] =>
      match P.underlying t, S.ev x with
      | some (.slice _), .d (.slice xs) => some (.d (.int .i64 xs.length), false)
      | some (.slice _), .bsl _ _ n => some (.d (.int .i64 n), false)
      | some .string, .d (.str s) => some (.d (.int .i64 s.length), false)
      | _, _ => none
    | _, _ => none
  | .call { callee := .builtin .min, args, argTypes := _ } => (minmax false (args.toList.map S.ev)).map fun r => (r, false)
  | .call { callee := .builtin .max, args, argTypes := _ } => (minmax true (args.toList.map S.ev)).map fun r => (r, false)
  | _ => none

/-! ### Operations that move what is one's own, or write -/
def FO : Nat := 100
def slotOf (s : Nat) : Loc → Bool | .t i _ => i == s | _ => false
def mvEff (o : Oper) (S : PS) (x : Operand) (tr : Bool) : Eff :=
  match x with
  | .tmp s => if tr then ⟨o.dst, S.t s, fun j => S.own (.t s j), slotOf s, none⟩ else ⟨o.dst, S.t s, fun _ => false, fun _ => false, none⟩
  | .const v => ⟨o.dst, ofConst v, fun _ => isNilV v, fun _ => false, none⟩
  | x => ⟨o.dst, S.ev x, fun _ => false, fun _ => false, none⟩
def isTr (tr : List Nat) (o : Oper) : Bool := match o.dst with | some d => tr.contains d | none => false
def appSrc (P : Program) (S : PS) (e : TypeId) (x : Operand) (tx : TypeId) : Option (List DV) :=
  match S.ev x, P.underlying tx with
  | .d (.slice ys), some (.slice _) => some ys
  | .d (.str s), some .string => some (s.map fun b => .int .u8 b.toNat)
  | .d (.int _ n), some (.int _) =>
    match zeroT P e with
    | some z => if 0 ≤ n ∧ n ≤ 9223372036854775807 ∧ z.oneCell' = true then some (List.replicate n.toNat (ofConstD z)) else none
    | none => none
  | _, _ => none
def appEff (P : Program) (S : PS) (o : Oper) (args : List Operand) (ts : List TypeId) : Option Eff :=
  match args, ts with
  | [.tmp s, x], [t, tx] =>
    match elT P t, S.t s with
    | some e, .d (.slice xs) =>
      match appSrc P S e x tx, bytT P e, zeroT P e with
      | some ys, some by_, some z =>
        if S.own (.t s 0) = true ∧ z.cells.size = szT P e ∧ szOk (szT P e) xs = true ∧ szOk (szT P e) ys = true ∧ 0 < szT P e ∧ 0 < by_ ∧ (xs.length + ys.length) * by_ ≤ 140737488355328 then
          some ⟨o.dst, .d (.slice (xs ++ ys)), fun j => j == 0, slotOf s, none⟩
        else none
      | _, _, _ => none
    | _, _ => none
  | _, _ => none
def isOwnCell : PV → Bool
  | .d (.slice []) => true
  | _ => false
def dstOk (N : Nat) (o : Oper) : Bool := match o.dst with | some d => decide (d < N) | none => true
def effF (P : Program) (N : Nat) (tr : List Nat) (S : PS) (o : Oper) : Option Eff :=
  if dstOk N o = true then
    match o.op with
    | .assign x => some (mvEff o S x true)
    | .move x => some (mvEff o S x (isTr tr o))
    | .extract x k =>
      match x with
      | .tmp s =>
        match S.t s with
        | .tup ps =>
          match ps[k]? with
          | some (.tup _) => none
          | some p => some ⟨o.dst, p, fun j => j == 0 && S.own (.t s k), fun l => l == .t s k, none⟩
          | none => none
        | _ => none
      | _ => none
    | .load t x =>
      match loadPV P S t x with
      | some r =>
        if isTr tr o then
          match S.ev x, aggT P t with
          | .ptr n _ off, some false => some ⟨o.dst, r, fun j => j == 0 && S.own (.b n off), fun l => l == .b n off, none⟩
          | _, _ => none
        else some ⟨o.dst, r, fun _ => false, fun _ => false, none⟩
      | none => none
    | .alloc e =>
      match o.dst, zeroT P e with
      | some d, some z =>
        if z.cells.toList.all (·.oneCell') then
          some ⟨o.dst, .ptr (FO + d) (S.gen (FO + d) + 1) 0, fun _ => false, fun _ => false, some (FO + d, S.gen (FO + d) + 1, z.cells.toList.map fun c => .d (ofConstD c), fun k => isNilV (z.cells.getD k undef))⟩
        else none
      | _, _ => none
    | .box _ x =>
      match o.dst, pcells (S.ev x) with
      | some d, some cs => some ⟨o.dst, .ptr (FO + d) (S.gen (FO + d) + 1) 0, fun _ => false, fun _ => false, some (FO + d, S.gen (FO + d) + 1, cs, fun _ => false)⟩
      | _, _ => none
    | .makeSlice t l c =>
      match o.dst, elT P t, S.ev l, S.ev c with
      | some d, some e, .d (.int _ n), .d (.int _ m) =>
        match zeroT P e, bytT P e with
        | some z, some by_ =>
          if n = m ∧ 0 ≤ n ∧ n ≤ 9223372036854775807 ∧ n * by_ ≤ 281474976710656 ∧ szT P e = 1 ∧ z.oneCell' = true then
            some ⟨o.dst, .bsl (FO + d) (S.gen (FO + d) + 1) n.toNat, fun _ => false, fun _ => false, some (FO + d, S.gen (FO + d) + 1, List.replicate n.toNat (.d (ofConstD z)), fun _ => false)⟩
          else none
        | _, _ => none
      | _, _, _, _ => none
    | .store t x v =>
      match o.dst, S.ev x, pcells (S.ev v) with
      | none, .ptr n g off, some cs =>
        if g = S.gen n ∧ cs.length = szT P t ∧ 0 < szT P t ∧ off + cs.length ≤ (S.box n).length then
          match v with
          | .tmp s => some ⟨none, .undef, fun _ => false, slotOf s, some (n, g, (S.box n).take off ++ cs ++ (S.box n).drop (off + cs.length), fun k => if off ≤ k ∧ k < off + cs.length then cs.length == 1 && S.own (.t s 0) && (match S.ev v with | .d (.slice _) => true | _ => false) else S.own (.b n k))⟩
          | v => some ⟨none, .undef, fun _ => false, fun _ => false, some (n, g, (S.box n).take off ++ cs ++ (S.box n).drop (off + cs.length), fun k => if off ≤ k ∧ k < off + cs.length then (match v with | .const c => isNilV c | _ => false) else S.own (.b n k))⟩
        else none
      | _, _, _ => none
    | .call { callee := .builtin .append, args, argTypes } => appEff P S o args.toList argTypes.toList
    | _ => (effV P S o).map fun r => ⟨o.dst, r.1, fun _ => r.2, fun _ => false, none⟩
  else none

end BoEng
