/- The operations on states. -/
import Derived.Test.YtoamihggbaaohaaEngC
namespace BoEng
open Go Go.RowKit

/-! ### What is asked of the types -/
def szT (P : Program) (t : TypeId) : Nat := match (Go.sizeOf t).run P default with | .ok n _ => n | _ => 0
def bytT (P : Program) (t : TypeId) : Option Nat := match (typeInfo t).run P default with | .ok i _ => some i.bytes | _ => none
def zeroT (P : Program) (t : TypeId) : Option Value := match (typeInfo t).run P default with | .ok i _ => i.zero | _ => none
def hasT (P : Program) (t : TypeId) : Bool := match (typeInfo t).run P default with | .ok _ _ => true | _ => false
def fldsOk (P : Program) (t : TypeId) : Bool := match P.underlying t with | some (.struct fs) => fs.toList.all fun f => hasT P f.type | _ => false
def aggT (P : Program) (t : TypeId) : Option Bool := match P.underlying t with | some (.struct _) => some true | some (.array _ _) => some true | some _ => some false | none => none
def elT (P : Program) (t : TypeId) : Option TypeId := match P.underlying t with | some (.slice e) => some e | _ => none
def fldT (P : Program) (t : TypeId) (f : Nat) : Option (Nat × TypeId) := match P.underlying t with | some (.struct fs) => (fs[f]?).map fun x => (x.offset, x.type) | _ => none

/-! ### Operands -/
def ofConstD : Value → DV
  | .int k n => .int k n
  | .bool b => .bool b
  | .string s => .str s.data.toList
  | .slice none 0 0 => .slice []
  | v => .opq v
def ofConst : Value → PV
  | .agg vs => if vs.toList.all (·.oneCell') then .d (.agg (vs.toList.map ofConstD)) else .any
  | .tuple vs => if vs.size = 0 then .tup [] else .any
  | v => .d (ofConstD v)
def isNilV : Value → Bool
  | .slice none 0 0 => true
  | _ => false

def PS.ev (S : PS) : Operand → PV
  | .tmp t => S.t t
  | .const v => ofConst v
  | .global _ => .any
  | .func f => .fn f []

def pcells : PV → Option (List PV)
  | .d x => some ((cells x).map .d)
  | .ptr n g o => some [.ptr n g o]
  | .cptr cs => some [.cptr cs]
  | .bsl n g l z a => some [.bsl n g l z a]
  | .pa cs => some cs
  | .fn f [] => some [.d (.opq (.func (.func f) #[] #[]))]
  | .fn f c => some [.fn f c]
  | _ => none

def toD : List PV → Option (List DV)
  | [] => some []
  | .d x :: r => (toD r).map (x :: ·)
  | _ => none

/-- A struct of cells. -/
def mkA (cs : List PV) : PV := match toD cs with | some c => .d (.agg c) | none => .pa cs

def toBytes : List DV → Option (List UInt8)
  | [] => some []
  | .int .u8 n :: r => (toBytes r).map (UInt8.ofNat n.toNat :: ·)
  | _ => none

/-! ### Reckoning -/
def cmpI (op : BinOp) (a b : Int) : Option Bool :=
  match op with
  | .eql => some (decide (a = b))
  | .neq => some (!decide (a = b))
  | .lss => some (decide (a < b))
  | .leq => some (decide (a ≤ b))
  | .gtr => some (decide (b < a))
  | .geq => some (decide (b ≤ a))
  | _ => none
def arI (op : BinOp) (k : IntKind) (a b : Int) : Option Int :=
  match op with
  | .add => some (k.wrap (a + b))
  | .sub => some (k.wrap (a - b))
  | .mul => some (k.wrap (a * b))
  | .quo => if b = 0 then none else some (k.wrap (a.tdiv b))
  | .rem => if b = 0 then none else some (a.tmod b)
  | .and => some (k.wrap (BitVec.ofInt k.bits a &&& BitVec.ofInt k.bits b).toNat)
  | .or => some (k.wrap (BitVec.ofInt k.bits a ||| BitVec.ofInt k.bits b).toNat)
  | .xor => some (k.wrap (BitVec.ofInt k.bits a ^^^ BitVec.ofInt k.bits b).toNat)
  | .andNot => some (k.wrap (BitVec.ofInt k.bits a &&& ~~~ BitVec.ofInt k.bits b).toNat)
  | _ => none
def shI (op : BinOp) (k : IntKind) (a b : Int) : Option Int :=
  if b < 0 then none else
  match op with
  | .shl => some (k.wrap (a * 2 ^ (min b.toNat k.bits)))
  | .shr => some (a.fdiv (2 ^ (min b.toNat k.bits)))
  | _ => none
/-- Strings in order, byte by byte. -/
def strLt (a b : List UInt8) : Bool := Op.bytesLess a b
def cmpS (op : BinOp) (a b : List UInt8) : Option Bool :=
  match op with
  | .eql => some (decide (a = b))
  | .neq => some (!decide (a = b))
  | .lss => some (strLt a b)
  | .leq => some (strLt a b || decide (a = b))
  | .gtr => some (!(strLt a b || decide (a = b)))
  | .geq => some (!strLt a b)
  | _ => none
def isShift : BinOp → Bool
  | .shl => true
  | .shr => true
  | _ => false
def eqB (op : BinOp) (a b : Bool) : Option Bool :=
  match op with
  | .eql => some (a == b)
  | .neq => some (!(a == b))
  | _ => none
/-- Two cells of one type. -/
def eqV (u : Option TypeDesc) (x y : Option DV) : Option Bool :=
  match u, x, y with
  | some (.int _), some (.int k a), some (.int k' b) => if k = k' then some (decide (a = b)) else none
  | some .bool, some (.bool a), some (.bool b) => some (a == b)
  | some .string, some (.str a), some (.str b) => some (decide (a = b))
  | _, _, _ => none
/-- Two structs, field by field. -/
def eqF (P : Program) (xs ys : List DV) : List Field → Option Bool
  | [] => some true
  | f :: fs => if f.name = "_" then none else (eqV (P.underlying f.type) xs[f.offset]? ys[f.offset]?).bind fun b => (eqF P xs ys fs).map fun r => b && r
def eqOk (P : Program) (t : TypeId) : Bool := !P.stoodInHeld t && !P.eqGuardType P.depth t
def eqA (P : Program) (t : TypeId) (xs ys : List DV) : Option Bool :=
  match P.underlying t with
  | some (.struct fs) => if eqOk P t then eqF P xs ys fs.toList else none
  | _ => none
/-- A pointer, a function, and nil. -/
def nilCmp (u : Option TypeDesc) (x y : PV) : Option Bool :=
  match u, x, y with
  | some (.pointer _), .ptr .., .d (.opq (.pointer none)) => some false
  | some (.pointer _), .cptr _, .d (.opq (.pointer none)) => some false
  | some (.pointer _), .d (.opq (.pointer none)), .d (.opq (.pointer none)) => some true
  | some (.func ..), .fn .., .d (.opq .nilFunc) => some false
  | some (.func ..), .d (.opq .nilFunc), .d (.opq .nilFunc) => some true
  | _, _, _ => none
def pbin (P : Program) (op : BinOp) (t : TypeId) (x y : PV) : Option PV :=
  match x, y with
  | .d (.agg xs), .d (.agg ys) =>
    match op with
    | .eql => (eqA P t xs ys).map fun r => .d (.bool r)
    | .neq => (eqA P t xs ys).map fun r => .d (.bool (!r))
    | _ => none
  | .d (.int k a), .d (.int k' b) =>
    if isShift op then (shI op k a b).map fun r => .d (.int k r)
    else if k = k' then
      match cmpI op a b with
      | some r => some (.d (.bool r))
      | none => (arI op k a b).map fun r => .d (.int k r)
    else none
  | .d (.str a), .d (.str b) =>
    match op with
    | .add => if a.length + b.length ≤ 9223372036854775807 then some (.d (.str (a ++ b))) else none
    | op => (cmpS op a b).map fun r => .d (.bool r)
  | .d (.bool a), .d (.bool b) =>
    match P.underlying t with
    | some .bool => (eqB op a b).map fun r => .d (.bool r)
    | _ => none
  | x, y =>
    match op with
    | .eql => (nilCmp (P.underlying t) x y).map fun r => .d (.bool r)
    | .neq => (nilCmp (P.underlying t) x y).map fun r => .d (.bool (!r))
    | _ => none
def pun (op : UnOp) (x : PV) : Option PV :=
  match op, x with
  | .not, .d (.bool b) => some (.d (.bool (!b)))
  | .neg, .d (.int k n) => some (.d (.int k (k.wrap (0 - n))))
  | .xor, .d (.int k n) => some (.d (.int k (k.wrap (BitVec.ofInt k.bits (if k.signed then -1 else k.max) ^^^ BitVec.ofInt k.bits n).toNat)))
  | _, _ => none

/-! ### Parts -/
def partD (P : Program) (t : TypeId) (cs : List DV) (off : Nat) : Option DV :=
  match aggT P t with
  | some true => if 0 < szT P t ∧ off + szT P t ≤ cs.length then some (.agg ((cs.drop off).take (szT P t))) else none
  | some false => cs[off]?
  | none => none
def bnd (S : PS) (top : Nat) (x : Operand) : Option Nat :=
  match S.ev x with
  | .d (.int _ i) => if 0 ≤ i ∧ i ≤ (top : Int) then some i.toNat else none
  | _ => none
def loB (S : PS) (top : Nat) : Option Operand → Option Nat
  | some v => bnd S top v
  | none => some 0
def hiB (S : PS) (top : Nat) : Option Operand → Option Nat
  | some v => bnd S top v
  | none => some top
def szOk (sz : Nat) (xs : List DV) : Bool := xs.all fun x => (cells x).length == sz
def sliceD (P : Program) (S : PS) (t : TypeId) (x : Operand) (lo hi mx : Option Operand) : Option (PV × Bool) :=
  match S.ev x with
  | .d (.slice xs) =>
    match elT P t with
    | none => none
    | some e =>
      if szOk (szT P e) xs = true ∧ 0 < szT P e then
        match mx with
        | none => (hiB S xs.length hi).bind fun h => (loB S h lo).bind fun l => some (.d (.slice ((xs.take h).drop l)), false)
        | some m =>
          match hi with
          | none => none
          | some hv => (bnd S xs.length m).bind fun m => (bnd S m hv).bind fun h => (loB S h lo).bind fun l => some (.d (.slice ((xs.take h).drop l)), m == h)
      else none
  | .d (.str s) =>
    match mx, P.underlying t with
    | none, some .string => (hiB S s.length hi).bind fun h => (loB S h lo).bind fun l => some (.d (.str ((s.take h).drop l)), false)
    | _, _ => none
  | _ => none
def buildP (P : Program) (S : PS) (t : TypeId) : List (Nat × Operand) → List PV → Option (List PV)
  | [], cs => some cs
  | (i, x) :: r, cs =>
    match fldT P t i, pcells (S.ev x) with
    | some (off, ft), some vs => if vs.length = szT P ft ∧ off + vs.length ≤ cs.length then buildP P S t r (cs.take off ++ vs ++ cs.drop (off + vs.length)) else none
    | _, _ => none
def partP (P : Program) (t : TypeId) (cs : List PV) (off : Nat) : Option PV :=
  match aggT P t with
  | some true => if 0 < szT P t ∧ off + szT P t ≤ cs.length then some (mkA ((cs.drop off).take (szT P t))) else none
  | some false => cs[off]?
  | none => none
def elemsD (S : PS) (sz : Nat) : Nat → List (Nat × Operand) → Option (List DV)
  | _, [] => some []
  | k, (i, x) :: r =>
    match S.ev x with
    | .d v => if i = k ∧ (cells v).length = sz then (elemsD S sz (k + 1) r).map (v :: ·) else none
    | _ => none
def loadPV (P : Program) (S : PS) (t : TypeId) (x : Operand) : Option PV :=
  match S.ev x with
  | .ptr n g o =>
    if g = S.gen n ∧ 0 < szT P t ∧ o + szT P t ≤ (S.box n).length then
      match aggT P t with
      | some true => some (mkA (((S.box n).drop o).take (szT P t)))
      | some false => if szT P t = 1 then (S.box n)[o]? else none
      | none => none
    else none
  | .cptr cs => (partD P t cs 0).map .d
  | _ => none
def mmGo (mx : Bool) (k : IntKind) : Int → List PV → Option PV
  | a, [] => some (.d (.int k a))
  | a, .d (.int k' b) :: r => if k = k' then mmGo mx k (if mx then (if b > a then b else a) else (if b < a then b else a)) r else none
  | _, _ => none
def minmax (mx : Bool) : List PV → Option PV
  | .d (.int k a) :: r => mmGo mx k a r
  | _ => none

/-- Values that write nothing; the second part: is it a slice without room (one's own)? -/
def effV (P : Program) (S : PS) (o : Oper) : Option (PV × Bool) :=
  match o.op with
  | .pick c a b => match S.ev c with | .d (.bool t) => some (if t then S.ev a else S.ev b, false) | _ => none
  | .nilCheck x => match S.ev x with | .ptr n g o => some (.ptr n g o, false) | .cptr cs => some (.cptr cs, false) | _ => none
  | .binOp op t x y _ => (pbin P op t (S.ev x) (S.ev y)).map fun r => (r, false)
  | .unOp op _ x => (pun op (S.ev x)).map fun r => (r, false)
  | .fieldAddr t x f =>
    match fldT P t f, S.ev x with
    | some (off, ft), .ptr n g o => if 0 < szT P ft then some (.ptr n g (o + off), false) else none
    | some (off, ft), .cptr cs => if 0 < szT P ft ∧ off < cs.length then some (.cptr (cs.drop off), false) else none
    | _, _ => none
  | .field t x f =>
    match fldT P t f, S.ev x with
    | some (off, ft), .d (.agg cs) => (partD P ft cs off).map fun r => (.d r, false)
    | some (off, ft), .pa cs => (partP P ft cs off).map fun r => (r, false)
    | _, _ => none
  | .indexAddr t x i =>
    match elT P t, S.ev x, S.ev i with
    | some e, .d (.slice xs), .d (.int _ i) =>
      if 0 ≤ i ∧ i < (xs.length : Int) then
        match xs[i.toNat]? with
        | some x => if (cells x).length = szT P e ∧ 0 < szT P e then some (.cptr (cells x), false) else none
        | none => none
      else none
    | some e, .bsl n g len sz _, .d (.int _ i) => if 0 ≤ i ∧ i < (len : Int) ∧ g = S.gen n ∧ szT P e = sz ∧ len * sz ≤ (S.box n).length then some (.ptr n g (i.toNat * sz), false) else none
    | _, _, _ => none
  | .index t x i =>
    match P.underlying t, S.ev x, S.ev i with
    | some .string, .d (.str s), .d (.int _ i) => if 0 ≤ i ∧ i < (s.length : Int) then some (.d (.int .u8 (s.getD i.toNat 0).toNat), false) else none
    | _, _, _ => none
  | .slice t x lo hi mx => sliceD P S t x lo hi mx
  | .build t ps =>
    match zeroT P t with
    | some (.agg z) => if z.toList.all (·.oneCell') = true ∧ fldsOk P t = true then (buildP P S t ps.toList (z.toList.map fun c => .d (ofConstD c))).map fun cs => (mkA cs, false) else none
    | _ => none
  | .buildSlice t len ps =>
    match elT P t with
    | some e => if ps.size = len ∧ len * szT P e ≤ 16777216 ∧ 0 < szT P e ∧ (zeroT P e).isSome then (elemsD S (szT P e) 0 ps.toList).map fun xs => (.d (.slice xs), true) else none
    | none => none
  | .makeFunc (.func f) first caps => if first.size = 0 then some (.fn f (caps.toList.map S.ev), false) else none
  | .convert src dst x =>
    match P.underlying src, P.underlying dst, S.ev x with
    | some (.int _), some (.int k), .d (.int _ n) => some (.d (.int k (k.wrap n)), false)
    | some .string, some .string, .d (.str s) => some (.d (.str s), false)
    | some (.slice e), some .string, .d (.slice xs) =>
      match P.underlying e with
      | some (.int .u8) => (toBytes xs).map fun s => (.d (.str s), false)
      | _ => none
    | some .string, some (.slice e), .d (.str s) =>
      match P.underlying e with
      | some (.int .u8) => if szT P e = 1 then some (.d (.slice (s.map fun b => .int .u8 b.toNat)), false) else none
      | _ => none
    | _, _, _ => none
  | .call { callee := .builtin .len, args, argTypes } =>
    match args.toList, argTypes.toList with
    | [x], [t] =>
      match P.underlying t, S.ev x with
      | some (.slice _), .d (.slice xs) => some (.d (.int .i64 xs.length), false)
      | some (.slice _), .bsl _ _ n _ _ => some (.d (.int .i64 n), false)
      | some .string, .d (.str s) => some (.d (.int .i64 s.length), false)
      | _, _ => none
    | _, _ => none
  | .call { callee := .builtin .min, args, argTypes := _ } => (minmax false (args.toList.map S.ev)).map fun r => (r, false)
  | .call { callee := .builtin .max, args, argTypes := _ } => (minmax true (args.toList.map S.ev)).map fun r => (r, false)
  | _ => none

/-! ### Operations that move what is one's own, or write -/
def FO : Nat := 100
def slotOf (s : Nat) : Loc → Bool | .t i _ => i == s | _ => false
def mvEff (o : Oper) (S : PS) (x : Operand) (tr : Bool) : Eff :=
  match x with
  | .tmp s => if tr then ⟨o.dst, S.t s, fun j => S.own (.t s j), slotOf s, []⟩ else ⟨o.dst, S.t s, fun _ => false, fun _ => false, []⟩
  | .const v => ⟨o.dst, ofConst v, fun _ => isNilV v, fun _ => false, []⟩
  | x => ⟨o.dst, S.ev x, fun _ => false, fun _ => false, []⟩
def isTr (tr : List Nat) (o : Oper) : Bool := match o.dst with | some d => tr.contains d | none => false
/-- Annotations: a slot in the list moves what is one's own; a slot + 10000: an append makes a box; a slot + 20000: what is loaded is let go. -/
def isBx (tr : List Nat) (o : Oper) : Bool := match o.dst with | some d => tr.contains (d + 10000) | none => false
def isRd (tr : List Nat) (o : Oper) : Bool := match o.dst with | some d => tr.contains (d + 30000) | none => false
def isFz (tr : List Nat) (o : Oper) : Bool := match o.dst with | some d => tr.contains (d + 20000) | none => false
/-- A call that is handed boxes: a slot + 40000; 40000 for all that answer nothing. -/
def isCb (tr : List Nat) (o : Oper) : Bool := match o.dst with | some d => tr.contains (d + 40000) | none => tr.contains 40000
/-- A function, and what it has caught. -/
def fnOf : PV → Option (FuncId × List PV)
  | .fn f c => some (f, c)
  | .d (.opq (.func (.func f) x y)) => if x.size = 0 ∧ y.size = 0 then some (f, []) else none
  | _ => none
/-- The elements of cells that lie one behind another. -/
def chunk (sz : Nat) (ag : Bool) : Nat → List DV → List DV
  | 0, _ => []
  | k + 1, ds => (if ag then .agg (ds.take sz) else ds.headD (.bool false)) :: chunk sz ag k (ds.drop sz)
/-- The elements of a slice that is a box. -/
def thawed (S : PS) (n g len sz : Nat) (ag : Bool) : Option (List DV) :=
  if g = S.gen n ∧ len * sz ≤ (S.box n).length ∧ (ag = false → sz = 1) then (toD ((S.box n).take (len * sz))).map (chunk sz ag len) else none
/-- What is put behind, as data. -/
def appSrc (P : Program) (rd : Bool) (S : PS) (e : TypeId) (x : Operand) (tx : TypeId) : Option (List DV) :=
  match S.ev x, P.underlying tx with
  | .d (.slice ys), some (.slice _) => some ys
  | .d (.str s), some .string => some (s.map fun b => .int .u8 b.toNat)
  | .d (.int _ n), some (.int _) =>
    match zeroT P e with
    | some z => if 0 ≤ n ∧ n ≤ 9223372036854775807 ∧ z.oneCell' = true then some (List.replicate n.toNat (ofConstD z)) else none
    | none => none
  | .bsl n g len sz ag, some (.slice _) => if rd = true then thawed S n g len sz ag else none
  | _, _ => none
def apEl (P : Program) (t : TypeId) : Option (TypeId × Nat × Value) :=
  match elT P t with
  | some e =>
    match bytT P e, zeroT P e with
    | some by_, some z => if z.cells.size = szT P e ∧ 0 < szT P e ∧ 0 < by_ then some (e, by_, z) else none
    | _, _ => none
  | none => none
def appEff (P : Program) (tr : List Nat) (S : PS) (o : Oper) (args : List Operand) (ts : List TypeId) : Option Eff :=
  match args, ts with
  | [.tmp s, x], [t, tx] =>
    match apEl P t with
    | some (e, by_, _) =>
      match appSrc P (isRd tr o) S e x tx with
      | some ys =>
        if szOk (szT P e) ys = true then
          match S.t s with
          | .d (.slice xs) =>
            if isBx tr o = true then
              match o.dst with
              | some d =>
                if S.own (.t s 0) = true ∧ xs = [] ∧ ys.length * by_ ≤ 140737488355328 ∧ (aggT P e = some false → szT P e = 1) ∧ (aggT P e).isSome then
                  some ⟨o.dst, .bsl (S.fo + d) (S.gen (S.fo + d) + 1) ys.length (szT P e) (aggT P e == some true), fun _ => false, slotOf s, [⟨S.fo + d, S.gen (S.fo + d) + 1, (flat ys).map .d, fun _ => false⟩]⟩
                else none
              | none => none
            else if S.own (.t s 0) = true ∧ szOk (szT P e) xs = true ∧ (xs.length + ys.length) * by_ ≤ 140737488355328 then
              some ⟨o.dst, .d (.slice (xs ++ ys)), fun j => j == 0, slotOf s, []⟩
            else none
          | .bsl n g len sz ag =>
            if g = S.gen n ∧ sz = szT P e ∧ (S.box n).length = len * sz ∧ (len + ys.length) * by_ ≤ 140737488355328 ∧ o.dst.isSome = true ∧ isBx tr o = true then
              some ⟨o.dst, .bsl n (g + 1) (len + ys.length) sz ag, fun _ => false, fun _ => false, [⟨n, g + 1, S.box n ++ (flat ys).map .d, fun k => S.own (.b n k)⟩]⟩
            else none
          | _ => none
        else none
      | none => none
    | none => none
  | _, _ => none
/-- A cell, let go. -/
def frzC (S : PS) : PV → Option (DV × List Nat)
  | .d x => some (x, [])
  | .bsl n g len sz ag => (thawed S n g len sz ag).map fun xs => (.slice xs, [n])
  | _ => none
def frzL (S : PS) : List PV → Option (List DV × List Nat)
  | [] => some ([], [])
  | c :: r => (frzC S c).bind fun x => (frzL S r).map fun y => (x.1 :: y.1, x.2 ++ y.2)
/-- A value, let go. -/
def frzV (S : PS) : PV → Option (DV × List Nat)
  | .pa cs => (frzL S cs).map fun x => (.agg x.1, x.2)
  | c => frzC S c
def kill (S : PS) (n : Nat) : Upd := ⟨n, S.gen n + 1, [], fun _ => false⟩
/-- A value is laid into a slot, and what it holds is let go. -/
def frzE (o : Oper) (S : PS) (r : PV) : Option Eff :=
  match frzV S r with
  | some (x, []) => some ⟨o.dst, .d x, fun _ => false, fun _ => false, []⟩
  | some (x, [n]) => some ⟨o.dst, .d x, fun _ => false, fun _ => false, [kill S n]⟩
  | _ => none
/-- What is built of may be one's own (slot + 80000): the first cell of a struct; the cells of a box that is appended. -/
def isOw (tr : List Nat) (o : Oper) : Bool := match o.dst with | some d => tr.contains (d + 80000) | none => false
def offOk (P : Program) (t : TypeId) (j : Nat) (ps : List (Nat × Operand)) : Bool := ps.all fun p => match fldT P t p.1 with | some (off, ft) => decide (j < off ∨ off + szT P ft ≤ j) | none => false
/-- A cell that no part is laid into, and that is nil. -/
def nilAt (P : Program) (t : TypeId) (ps : List (Nat × Operand)) (j : Nat) : Bool := offOk P t j ps && (match zeroT P t with | some z => decide (j < z.cells.size) && isNilV (z.cells.getD j undef) | _ => false)
def buildOw (P : Program) (S : PS) (t : TypeId) (ps : List (Nat × Operand)) : Option Nat :=
  match ps with
  | (i, .tmp s) :: r =>
    match fldT P t i with
    | some (off, ft) => if off = 0 ∧ szT P ft = 1 ∧ offOk P t 0 r = true ∧ isSl (S.t s) = true then some s else none
    | none => none
  | _ => none
/-- A slice of one element, as a box. -/
def bslEff (P : Program) (S : PS) (o : Oper) (t : TypeId) (len : Nat) (ps : List (Nat × Operand)) : Option Eff :=
  match o.dst, elT P t, ps with
  | some d, some e, [(i, .tmp s)] =>
    match pcells (S.t s) with
    | some cs =>
      if i = 0 ∧ len = 1 ∧ cs.length = szT P e ∧ 0 < szT P e ∧ szT P e ≤ 16777216 ∧ (zeroT P e).isSome = true ∧ (aggT P e).isSome = true ∧ s ≠ d then
        some ⟨o.dst, .bsl (S.fo + d) (S.gen (S.fo + d) + 1) 1 (szT P e) (aggT P e == some true), fun _ => false, slotOf s, [⟨S.fo + d, S.gen (S.fo + d) + 1, cs, fun k => decide (k < cs.length) && S.own (.t s k)⟩]⟩
      else none
    | none => none
  | _, _, _ => none
/-- A slice of data, as a box. -/
def bsl2Eff (P : Program) (S : PS) (o : Oper) (t : TypeId) (len : Nat) (ps : Array (Nat × Operand)) : Option Eff :=
  match o.dst, elT P t with
  | some d, some e =>
    if ps.size = len ∧ len * szT P e ≤ 16777216 ∧ 0 < szT P e ∧ (zeroT P e).isSome = true ∧ szT P e ≤ 16777216 ∧ (aggT P e).isSome = true then
      match elemsD S (szT P e) 0 ps.toList with
      | some xs => some ⟨o.dst, .bsl (S.fo + d) (S.gen (S.fo + d) + 1) len (szT P e) (aggT P e == some true), fun _ => false, fun _ => false, [⟨S.fo + d, S.gen (S.fo + d) + 1, (flat xs).map .d, fun _ => false⟩]⟩
      | none => none
    else none
  | _, _ => none
def isU8 (P : Program) (e : TypeId) : Bool := match P.underlying e with | some (.int .u8) => true | _ => false
theorem isU8_eq {P : Program} {e : TypeId} (h : isU8 P e = true) : P.underlying e = some (.int .u8) := by
  unfold isU8 at h
  split at h
  · assumption
  · cases h
/-- Bytes of a literal, turned to bytes: the box is let go, with a mark behind it. -/
def cvfEff (P : Program) (S : PS) (o : Oper) (src dst : TypeId) (x : Operand) : Option Eff :=
  match P.underlying src, S.ev x with
  | some (.slice e), .bsl n g len sz ag => if src = dst ∧ isU8 P e = true ∧ 0 < len then frzE o S (.bsl n g len sz ag) else none
  | _, _ => none
/-- The cells of a box that is put behind are one's own there as they were here. -/
def giveOwn (S : PS) (m : Nat) (E : Eff) : Option Eff :=
  match E.bx with
  | [u] =>
    if m ≠ u.n ∧ (S.box m).length ≤ u.c.length then
      some ⟨E.dst, E.r, E.ro, E.clr, [⟨u.n, u.g, u.c, fun k => if k < u.c.length - (S.box m).length then u.o k else S.own (.b m (k - (u.c.length - (S.box m).length)))⟩, ⟨m, S.gen m, S.box m, fun _ => false⟩]⟩
    else none
  | _ => none
def srcBsl (S : PS) (args : List Operand) : Option Nat :=
  match args with
  | [_, x] => match S.ev x with | .bsl m g len sz _ => if (S.box m).length = len * sz ∧ g = S.gen m then some m else none | _ => none
  | _ => none
/-- A nil cell of a struct that is built comes to be an empty slice that is a box (1000000 + 1000 slot + 100 cell + 2 cells of an element + is it a struct). -/
def nbT : List Nat → Nat → Option (Nat × Nat × Bool)
  | [], _ => none
  | x :: r, d => if 1000000 ≤ x ∧ (x - 1000000) / 1000 = d then some (x % 1000 / 100, x % 100 / 2, x % 2 == 1) else nbT r d
def nbOf (tr : List Nat) (o : Oper) : Option (Nat × Nat × Bool) := match o.dst with | some d => nbT tr d | none => none
def nbEff (P : Program) (S : PS) (o : Oper) (t : TypeId) (ps : List (Nat × Operand)) (q : Option (Nat × Nat × Bool)) : Option Eff :=
  match o.dst, q, effV P S o with
  | some d, some (c, sz, ag), some r =>
    match pcells r.1 with
    | some cs => if nilAt P t ps c = true ∧ 0 < sz ∧ c < cs.length then some ⟨some d, .pa (cs.set c (.bsl (S.fo + d) (S.gen (S.fo + d) + 1) 0 sz ag)), fun j => decide (j ≠ c) && nilAt P t ps j, fun _ => false, [⟨S.fo + d, S.gen (S.fo + d) + 1, [], fun _ => false⟩]⟩ else none
    | none => none
  | _, _, _ => none
/-- A box whose cells are one's own as they were in a slot. -/
def boxOw (S : PS) (d : Nat) (x : Operand) (cs : List PV) : Option Eff :=
  match x with
  | .tmp s => if s ≠ d then some ⟨some d, .ptr (S.fo + d) (S.gen (S.fo + d) + 1) 0, fun _ => false, slotOf s, [⟨S.fo + d, S.gen (S.fo + d) + 1, cs, fun k => decide (k < cs.length) && S.own (.t s k)⟩]⟩ else none
  | _ => none
def isOwnCell : PV → Bool
  | .d (.slice []) => true
  | _ => false
def dstOk (N : Nat) (o : Oper) : Bool := match o.dst with | some d => decide (d < N) | none => true
def effF0 (P : Program) (N : Nat) (tr : List Nat) (S : PS) (o : Oper) : Option Eff :=
  if dstOk N o = true then
    match o.op with
    | .assign x => some (mvEff o S x true)
    | .move x =>
      if isFz tr o = true then frzE o S (S.ev x)
      else some (mvEff o S x (isTr tr o))
    | .extract x k =>
      match x with
      | .tmp s =>
        match S.t s with
        | .tup ps =>
          match ps[k]? with
          | some (.tup _) => none
          | some p => some ⟨o.dst, p, fun j => j == 0 && S.own (.t s k), fun l => l == .t s k, []⟩
          | none => none
        | _ => none
      | _ => none
    | .load t x =>
      match loadPV P S t x with
      | some r =>
        if isFz tr o = true then frzE o S r
        else if isTr tr o then
          match S.ev x, aggT P t with
          | .ptr n _ off, some false => some ⟨o.dst, r, fun j => j == 0 && S.own (.b n off), fun l => l == .b n off, []⟩
          | _, _ => none
        else some ⟨o.dst, r, fun _ => false, fun _ => false, []⟩
      | none => none
    | .alloc e =>
      match o.dst, zeroT P e with
      | some d, some z =>
        if z.cells.toList.all (·.oneCell') then
          some ⟨o.dst, .ptr (S.fo + d) (S.gen (S.fo + d) + 1) 0, fun _ => false, fun _ => false, [⟨S.fo + d, S.gen (S.fo + d) + 1, z.cells.toList.map fun c => .d (ofConstD c), fun k => isNilV (z.cells.getD k undef)⟩]⟩
        else none
      | _, _ => none
    | .box _ x =>
      match o.dst, pcells (S.ev x) with
      | some d, some cs =>
        if isFz tr o = true then (toD cs).map fun ds => ⟨o.dst, .cptr ds, fun _ => false, fun _ => false, []⟩
        else if isOw tr o = true then boxOw S d x cs
        else some ⟨o.dst, .ptr (S.fo + d) (S.gen (S.fo + d) + 1) 0, fun _ => false, fun _ => false, [⟨S.fo + d, S.gen (S.fo + d) + 1, cs, fun _ => false⟩]⟩
      | _, _ => none
    | .makeSlice t l c =>
      match o.dst, elT P t, S.ev l, S.ev c with
      | some d, some e, .d (.int _ n), .d (.int _ m) =>
        match zeroT P e, bytT P e with
        | some z, some by_ =>
          if n = m ∧ 0 ≤ n ∧ n ≤ 9223372036854775807 ∧ n * by_ ≤ 281474976710656 ∧ szT P e = 1 ∧ z.oneCell' = true then
            if isFz tr o = true then some ⟨o.dst, .d (.slice (List.replicate n.toNat (ofConstD z))), fun _ => true, fun _ => false, []⟩
            else some ⟨o.dst, .bsl (S.fo + d) (S.gen (S.fo + d) + 1) n.toNat 1 false, fun _ => false, fun _ => false, [⟨S.fo + d, S.gen (S.fo + d) + 1, List.replicate n.toNat (.d (ofConstD z)), fun _ => false⟩]⟩
          else none
        | _, _ => none
      | _, _, _, _ => none
    | .store t x v =>
      match o.dst, S.ev x, pcells (S.ev v) with
      | none, .ptr n g off, some cs =>
        if g = S.gen n ∧ cs.length = szT P t ∧ 0 < szT P t ∧ off + cs.length ≤ (S.box n).length then
          match v with
          | .tmp s => some ⟨none, .undef, fun _ => false, slotOf s, [⟨n, g, (S.box n).take off ++ cs ++ (S.box n).drop (off + cs.length), fun k => if off ≤ k ∧ k < off + cs.length then cs.length == 1 && S.own (.t s 0) && (match S.ev v with | .d (.slice _) => true | _ => false) else S.own (.b n k)⟩]⟩
          | v => some ⟨none, .undef, fun _ => false, fun _ => false, [⟨n, g, (S.box n).take off ++ cs ++ (S.box n).drop (off + cs.length), fun k => if off ≤ k ∧ k < off + cs.length then (match v with | .const c => isNilV c | _ => false) else S.own (.b n k)⟩]⟩
        else none
      | _, _, _ => none
    | .call { callee := .builtin .append, args, argTypes } =>
      if isOw tr o = true then (match srcBsl S args.toList with | some m => if isRd tr o = true ∧ isBx tr o = true then (appEff P tr S o args.toList argTypes.toList).bind (giveOwn S m) else none | none => none)
      else appEff P tr S o args.toList argTypes.toList
    | .build t ps =>
      if (nbOf tr o).isSome = true then nbEff P S o t ps.toList (nbOf tr o)
      else if isOw tr o = true then (effV P S o).map fun r => match buildOw P S t ps.toList with | some s => ⟨o.dst, r.1, fun j => (j == 0 && S.own (.t s 0)) || nilAt P t ps.toList j, slotOf s, []⟩ | none => ⟨o.dst, r.1, fun j => nilAt P t ps.toList j, fun _ => false, []⟩
      else (effV P S o).map fun r => ⟨o.dst, r.1, fun _ => r.2, fun _ => false, []⟩
    | .buildSlice t len ps =>
      if isBx tr o = true then (if isOw tr o = true then bsl2Eff P S o t len ps else bslEff P S o t len ps.toList)
      else (effV P S o).map fun r => ⟨o.dst, r.1, fun _ => r.2, fun _ => false, []⟩
    | .convert src dst x =>
      if isFz tr o = true then cvfEff P S o src dst x
      else (effV P S o).map fun r => ⟨o.dst, r.1, fun _ => r.2, fun _ => false, []⟩
    | _ => (effV P S o).map fun r => ⟨o.dst, r.1, fun _ => r.2, fun _ => false, []⟩
  else none

/-- An operation at places that nobody writes. -/
def isCs (tr : List Nat) (o : Oper) : Bool := match o.dst with | some d => tr.contains (d + 50000) | none => false
def csOp : Op → Option Operand
  | .indexAddr _ x _ => some x
  | .load _ x => some x
  | _ => none
def isCst : PV → Bool
  | .cptr _ => true
  | .d _ => true
  | _ => false
/-- An operation at places in boxes that are not made anew here; an operation that makes a box which such ones do not look at. -/
def isCm (tr : List Nat) (o : Oper) : Bool := match o.dst with | some d => tr.contains (d + 70000) | none => false
def isNw (tr : List Nat) (o : Oper) : Bool := match o.dst with | some d => tr.contains (d + 60000) && decide (d < 10000) | none => false
def nws (tr : List Nat) (fo n : Nat) : Bool := tr.all fun x => !(decide (60000 ≤ x) && decide (x < 70000) && n == fo + (x - 60000))
def cmOk (tr : List Nat) (fo : Nat) : PV → Bool
  | .cptr _ => true
  | .d _ => true
  | .ptr n _ _ => nws tr fo n
  | .bsl n _ _ _ _ => nws tr fo n
  | _ => false
/-- An operation at places in boxes that are made anew here. -/
def isCl (tr : List Nat) (o : Oper) : Bool := match o.dst with | some d => tr.contains (d + 90000) | none => false
def clOk (tr : List Nat) (fo : Nat) : PV → Bool
  | .cptr _ => true
  | .d _ => true
  | .ptr n _ _ => !nws tr fo n
  | .bsl n _ _ _ _ => !nws tr fo n
  | _ => false
/-- A call that leaves those boxes alone. -/
def isOut (tr : List Nat) (o : Oper) : Bool := match o.dst with | some d => tr.contains (d + 100000) | none => tr.contains 100000
def csOk (tr : List Nat) (S : PS) (o : Oper) : Bool :=
  match csOp o.op with
  | some x => (!isCs tr o || (isCst (S.ev x) && !isTr tr o && !isFz tr o)) && (!isCm tr o || (cmOk tr S.fo (S.ev x) && !isTr tr o && !isFz tr o)) && (!isCl tr o || (clOk tr S.fo (S.ev x) && !isTr tr o && !isFz tr o))
  | none => true
/-- An operation at one box alone: 3000000 (of what is stored: 5000000) + 1000 slot + the slot in which the box was made. -/
def fpT : List Nat → Nat → Option Nat
  | [], _ => none
  | x :: r, d => if 3000000 ≤ x ∧ (x - 3000000) / 1000 = d then some (x % 1000) else fpT r d
def fpOf (tr : List Nat) (o : Oper) : Option (Nat × Operand) :=
  match o.op with
  | .indexAddr _ x _ => match o.dst with | some d => (fpT tr d).map fun m => (m, x) | none => none
  | .load _ x => match o.dst with | some d => (fpT tr d).map fun m => (m, x) | none => none
  | .store _ x (.tmp s) => (fpT tr (2000 + s)).map fun m => (m, x)
  | _ => none
/-- A box that is made, and is such a one. -/
def fpA (tr : List Nat) (o : Oper) : Option Nat :=
  match o.op with
  | .alloc _ => match o.dst with | some d => if fpT tr d = some d then some d else none | none => none
  | _ => none
def atBox (n : Nat) : PV → Bool
  | .ptr n' _ _ => n' == n
  | .bsl n' _ _ _ _ => n' == n
  | _ => false
def fpCk (tr : List Nat) (S : PS) (o : Oper) : Bool :=
  match fpOf tr o with
  | some (m, x) => atBox (S.fo + m) (S.ev x) && ((csOp o.op).isNone || (!isTr tr o && !isFz tr o))
  | none => true
/-- What an operation does. -/
def effF (P : Program) (N : Nat) (tr : List Nat) (S : PS) (o : Oper) : Option Eff := if (csOk tr S o && fpCk tr S o) = true then effF0 P N tr S o else none

end BoEng
