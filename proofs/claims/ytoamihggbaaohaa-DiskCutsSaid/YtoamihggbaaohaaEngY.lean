/- The rules of reckoning, second part: each without a side condition, so that what is stuck shows. -/
import Derived.Test.YtoamihggbaaohaaEngX
namespace BoEng
open Go Go.RowKit

section
variable {P : Program} {tr : List Nat} {S : PS} {K : PS → Prop} {Q : PS → Prop} {l : List CO}

@[simp] theorem start_t {args : List PV} {i : Nat} : (PS.start args).t i = args.getD i .undef := rfl
@[simp] theorem start_box {args : List PV} {i : Nat} : (PS.start args).box i = [] := rfl
@[simp] theorem start_gen {args : List PV} {i : Nat} : (PS.start args).gen i = 0 := rfl
@[simp] theorem start_fo {args : List PV} : (PS.start args).fo = FO := rfl
@[simp] theorem startB_t {fo : Nat} {gl : Nat → Nat} {args : List PV} {pre : List Upd} {i : Nat} : (PS.startB fo gl args pre).t i = args.getD i .undef := rfl
@[simp] theorem startB_box {fo : Nat} {gl : Nat → Nat} {args : List PV} {pre : List Upd} {n : Nat} : (PS.startB fo gl args pre).box n = updC pre n [] := updC_eq.symm
@[simp] theorem startB_gen {fo : Nat} {gl : Nat → Nat} {args : List PV} {pre : List Upd} {n : Nat} : (PS.startB fo gl args pre).gen n = updG pre n (gl n) := updG_eq.symm
@[simp] theorem startB_fo {fo : Nat} {gl : Nat → Nat} {args : List PV} {pre : List Upd} : (PS.startB fo gl args pre).fo = fo := rfl
@[simp] theorem startB_ownt {fo : Nat} {gl : Nat → Nat} {args : List PV} {pre : List Upd} {i j : Nat} : (PS.startB fo gl args pre).own (.t i j) = false := rfl
@[simp] theorem startB_ownb {fo : Nat} {gl : Nat → Nat} {args : List PV} {pre : List Upd} {n k : Nat} : (PS.startB fo gl args pre).own (.b n k) = updO pre n k false := updO_eq.symm
@[simp] theorem start_own {args : List PV} {i : Loc} : (PS.start args).own i = false := rfl
@[simp] theorem getD_cons0 {α : Type} {x d : α} {l : List α} : (x :: l).getD 0 d = x := rfl
@[simp] theorem getD_consS {α : Type} {x d : α} {l : List α} {n : Nat} : (x :: l).getD (n + 1) d = l.getD n d := rfl
@[simp] theorem getD_nil' {α : Type} {d : α} {n : Nat} : ([] : List α).getD n d = d := by simp

@[simp] theorem pcells_d {x : DV} : pcells (.d x) = some ((cells x).map .d) := rfl
@[simp] theorem pcells_ptr {n g o : Nat} : pcells (.ptr n g o) = some [.ptr n g o] := rfl
@[simp] theorem pcells_bsl {n g o z : Nat} {a : Bool} : pcells (.bsl n g o z a) = some [.bsl n g o z a] := rfl
@[simp] theorem pcells_pa {cs : List PV} : pcells (.pa cs) = some cs := rfl
@[simp] theorem pcells_cptr {cs : List DV} : pcells (.cptr cs) = some [.cptr cs] := rfl
@[simp] theorem pcells_f0 {f : FuncId} : pcells (.fn f []) = some [.d (.opq (.func (.func f) #[] #[]))] := rfl
@[simp] theorem pcells_f1 {f : FuncId} {x : PV} {c : List PV} : pcells (.fn f (x :: c)) = some [.fn f (x :: c)] := rfl
@[simp] theorem fnOf_fn {f : FuncId} {c : List PV} : fnOf (.fn f c) = some (f, c) := rfl
@[simp] theorem fnOf_opq {f : FuncId} : fnOf (.d (.opq (.func (.func f) #[] #[]))) = some (f, []) := rfl
@[simp] theorem toD_nil : toD [] = some [] := rfl
@[simp] theorem toD_cons {x : DV} {r : List PV} : toD (.d x :: r) = (toD r).map (x :: ·) := rfl
@[simp] theorem toD_map {α : Type} {f : α → DV} {l : List α} : toD (l.map fun x => .d (f x)) = some (l.map f) := by
  induction l with
  | nil => rfl
  | cons x l ih => simp [ih]
@[simp] theorem toD_bsl {n g o z : Nat} {a : Bool} {r : List PV} : toD (.bsl n g o z a :: r) = none := rfl
@[simp] theorem toD_ptr {n g o : Nat} {r : List PV} : toD (.ptr n g o :: r) = none := rfl
@[simp] theorem toD_cptr {c : List DV} {r : List PV} : toD (.cptr c :: r) = none := rfl
@[simp] theorem toD_fn {f : FuncId} {c r : List PV} : toD (.fn f c :: r) = none := rfl
@[simp] theorem toD_rep {x : DV} : ∀ {n : Nat}, toD (List.replicate n (PV.d x)) = some (List.replicate n x)
  | 0 => rfl
  | n + 1 => by simp [List.replicate_succ, toD_rep]
@[simp] theorem frzL_nil : frzL S [] = some ([], []) := rfl
@[simp] theorem frzL_d {x : DV} {r : List PV} : frzL S (.d x :: r) = (frzL S r).map fun y => (x :: y.1, y.2) := by
  simp only [frzL, frzC, Option.bind_some, List.nil_append]
@[simp] theorem frzL_b {n g len sz : Nat} {ag : Bool} {r : List PV} : frzL S (.bsl n g len sz ag :: r) = (thawB (S.gen n) (S.box n) g len sz ag).bind fun xs => (frzL S r).map fun y => (.slice xs :: y.1, n :: y.2) := by
  simp only [frzL, frzC, thawed_B]
  cases thawB (S.gen n) (S.box n) g len sz ag <;> rfl
@[simp] theorem toD_map' {l : List DV} : toD (l.map .d) = some l := by simpa using toD_map (f := fun x => x) (l := l)

attribute [simp] fieldAddrV fieldV lenV loadV partD partP mkA thawB over convertV cvS isU8
@[simp] theorem wrapI_byte (b : UInt8) : IntKind.i64.wrap ((b.toNat : Nat) : Int) = (b.toNat : Nat) := by have := b.toNat_lt; exact wrap_in (by omega)
@[simp] theorem wrapB_byte (b : UInt8) : IntKind.u8.wrap ((b.toNat : Nat) : Int) = (b.toNat : Nat) := by have := b.toNat_lt; exact wrap_u8 (by omega)
@[simp] theorem toBytes_nil : toBytes [] = some [] := rfl
@[simp] theorem toBytes_map : ∀ (l : List UInt8), toBytes (l.map byteD) = some l
  | [] => rfl
  | b :: l => by
    simp only [List.map_cons, byteD, toBytes, toBytes_map l, Option.map_some]
    simp
@[simp] theorem toBytes_map2 (l : List UInt8) : toBytes (l.map fun b => DV.int .u8 b.toNat) = some l := toBytes_map l
@[simp] theorem toBytes_cons {n : Int} {r : List DV} : toBytes (.int .u8 n :: r) = (toBytes r).map (UInt8.ofNat n.toNat :: ·) := rfl

/-- A field is set. -/
def bld (P : Program) (f : Option (Nat × Nat)) (x : Option (List PV)) (cs : List PV) (k : List PV → Option (List PV)) : Option (List PV) :=
  match f, x with
  | some (off, ft), some vs => if vs.length = szT P ft ∧ off + vs.length ≤ cs.length then k (cs.take off ++ vs ++ cs.drop (off + vs.length)) else none
  | _, _ => none
@[simp] theorem bld_d {off ft : Nat} {vs cs : List PV} {k : List PV → Option (List PV)} : bld P (some (off, ft)) (some vs) cs k = if vs.length = szT P ft ∧ off + vs.length ≤ cs.length then k (cs.take off ++ vs ++ cs.drop (off + vs.length)) else none := rfl
@[simp] theorem buildP_c {t i : Nat} {x : Operand} {r : List (Nat × Operand)} {cs : List PV} : buildP P S t ((i, x) :: r) cs = bld P (fldT P t i) (pcells (S.ev x)) cs (buildP P S t r) := by
  rw [buildP]
  cases fldT P t i with
  | none => rfl
  | some q =>
    obtain ⟨off, ft⟩ := q
    cases pcells (S.ev x) <;> rfl
def elm (sz : Nat) (x : PV) (k : Option (List DV)) : Option (List DV) := match x with | .d v => if (cells v).length = sz then k.map (v :: ·) else none | _ => none
@[simp] theorem elm_d {sz : Nat} {v : DV} {k : Option (List DV)} : elm sz (.d v) k = if (cells v).length = sz then k.map (v :: ·) else none := rfl
@[simp] theorem elemsD_c {sz k i : Nat} {x : Operand} {r : List (Nat × Operand)} : elemsD S sz k ((i, x) :: r) = if i = k then elm sz (S.ev x) (elemsD S sz (k + 1) r) else none := by
  rw [elemsD]
  cases S.ev x with
  | d v =>
    simp only [elm]
    by_cases h1 : i = k
    · by_cases h2 : (cells v).length = sz <;> simp [h1, h2]
    · by_cases h2 : (cells v).length = sz <;> simp [h1]
  | _ => simp [elm]
def bslC (P : Program) (t : Nat) (n : Nat) : Bool := match elT P t with | some e => decide (n * szT P e ≤ 16777216 ∧ 0 < szT P e) && (zeroT P e).isSome | none => false
def bslZ (P : Program) (t : Nat) : Bool := match elT P t with | some e => decide (0 < szT P e) && (zeroT P e).isSome | none => false
@[simp] theorem bslC_z {t n : Nat} : bslC P t n = (decide (n * eSz P t ≤ 16777216) && bslZ P t) := by
  unfold bslC bslZ eSz
  cases elT P t with
  | none => simp
  | some e =>
    simp only
    by_cases h1 : n * szT P e ≤ 16777216 <;> by_cases h2 : 0 < szT P e <;> simp [h1, h2]
@[simp] theorem buildSliceV_c {t len : Nat} {ps : List (Nat × Operand)} : buildSliceV P S t len ps = if ps.length = len ∧ bslC P t len = true then (elemsD S (eSz P t) 0 ps).map fun xs => (.d (.slice xs), true) else none := by
  unfold buildSliceV bslC eSz
  cases elT P t with
  | none => simp
  | some e =>
    simp only [Bool.and_eq_true, decide_eq_true_eq]
    by_cases h : ps.length = len ∧ len * szT P e ≤ 16777216 ∧ 0 < szT P e ∧ (zeroT P e).isSome = true
    · rw [if_pos h, if_pos ⟨h.1, ⟨h.2.1, h.2.2.1⟩, h.2.2.2⟩]
    · rw [if_neg h, if_neg (fun k => h ⟨k.1, k.2.1.1, k.2.1.2, k.2.2⟩)]

@[simp] theorem isCst_c {c : List DV} : isCst (.cptr c) = true := rfl
@[simp] theorem isCst_d {c : DV} : isCst (.d c) = true := rfl
attribute [simp] csG fpG fpT atBox
@[simp] theorem cmOk_c {fo : Nat} {c : List DV} : cmOk tr fo (.cptr c) = true := rfl
@[simp] theorem cmOk_d {fo : Nat} {c : DV} : cmOk tr fo (.d c) = true := rfl
@[simp] theorem cmOk_p {fo n g k : Nat} : cmOk tr fo (.ptr n g k) = nws tr fo n := rfl
@[simp] theorem cmOk_b {fo n g l z : Nat} {a : Bool} : cmOk tr fo (.bsl n g l z a) = nws tr fo n := rfl
@[simp] theorem clOk_c {fo : Nat} {c : List DV} : clOk tr fo (.cptr c) = true := rfl
@[simp] theorem clOk_d {fo : Nat} {c : DV} : clOk tr fo (.d c) = true := rfl
@[simp] theorem clOk_p {fo n g k : Nat} : clOk tr fo (.ptr n g k) = !nws tr fo n := rfl
@[simp] theorem clOk_b {fo n g l z : Nat} {a : Bool} : clOk tr fo (.bsl n g l z a) = !nws tr fo n := rfl
attribute [simp] nws
/-- A place in a slice. -/
@[simp] theorem indexAddrV_m {α : Type} [Inhabited α] {t : Nat} {gen : Nat → Nat} {box : Nat → List PV} {enc : α → DV} {xs : List α} {k : IntKind} {i : Int} (hs : ∀ x, (cells (enc x)).length = eSz P t) (hp : 0 < eSz P t) (h0 : 0 ≤ i) (h1 : i < xs.length) :
    indexAddrV P t gen box (.d (.slice (xs.map enc))) (.d (.int k i)) = some (.cptr (cells (enc (nth xs i))), false) := by
  unfold eSz at hs hp
  cases he : elT P t with
  | none => rw [he] at hp; simp at hp
  | some e =>
    rw [he] at hs hp
    exact indexAddrV_map he hs hp h0 h1
@[simp] theorem indexAddrV_b {t n g len sz : Nat} {ag : Bool} {gen : Nat → Nat} {box : Nat → List PV} {k : IntKind} {i : Int} (hs : eSz P t = sz) (hsz : 0 < sz) (h0 : 0 ≤ i) (h1 : i < len) (hg : g = gen n) (hb : len * sz ≤ (box n).length) :
    indexAddrV P t gen box (.bsl n g len sz ag) (.d (.int k i)) = some (.ptr n g (i.toNat * sz), false) := by
  unfold eSz at hs
  cases he : elT P t with
  | none => rw [he] at hs; simp at hs; omega
  | some e =>
    rw [he] at hs
    exact indexAddrV_bsl he hs h0 h1 hg hb
/-- A place in a slice of cells, told without a kind. -/
theorem indexAddrV_n {t : Nat} {gen : Nat → Nat} {box : Nat → List PV} {xs : List DV} {k : IntKind} {n : Nat} : indexAddrV P t gen box (.d (.slice xs)) (.d (.int k (n : Nat))) =
    (match elT P t, xs[n]? with | some e, some x => if (cells x).length = szT P e ∧ 0 < szT P e then some (.cptr (cells x), false) else none | _, _ => none) := by
  unfold indexAddrV
  cases elT P t with
  | none => rfl
  | some e =>
    simp only
    by_cases h : n < xs.length
    · rw [if_pos (by omega)]
      simp [List.getElem?_eq_getElem h]
    · rw [if_neg (by omega), List.getElem?_eq_none (by omega)]
def idxC (P : Program) (t : Nat) (x : Option DV) : Option (PV × Bool) := match x with | some x => if (cells x).length = eSz P t ∧ 0 < eSz P t then some (.cptr (cells x), false) else none | none => none
@[simp] theorem idxC_s {t : Nat} {x : DV} : idxC P t (some x) = if (cells x).length = eSz P t ∧ 0 < eSz P t then some (.cptr (cells x), false) else none := rfl
theorem indexAddrV_lit {t : Nat} {gen : Nat → Nat} {box : Nat → List PV} {xs : List DV} {k : IntKind} (n : Nat) : indexAddrV P t gen box (.d (.slice xs)) (.d (.int k (n : Nat))) = idxC P t xs[n]? := by
  rw [indexAddrV_n]
  unfold idxC eSz
  cases elT P t with
  | none => cases xs[n]? <;> simp
  | some e => cases xs[n]? <;> rfl
@[simp] theorem indexAddrV_0 {t : Nat} {gen : Nat → Nat} {box : Nat → List PV} {x : DV} {xs : List DV} {k : IntKind} : indexAddrV P t gen box (.d (.slice (x :: xs))) (.d (.int k 0)) = idxC P t (some x) := indexAddrV_lit 0
@[simp] theorem indexAddrV_1 {t : Nat} {gen : Nat → Nat} {box : Nat → List PV} {x y : DV} {xs : List DV} {k : IntKind} : indexAddrV P t gen box (.d (.slice (x :: y :: xs))) (.d (.int k 1)) = idxC P t (some y) := indexAddrV_lit 1
@[simp] theorem indexAddrV_2 {t : Nat} {gen : Nat → Nat} {box : Nat → List PV} {x y z : DV} {xs : List DV} {k : IntKind} : indexAddrV P t gen box (.d (.slice (x :: y :: z :: xs))) (.d (.int k 2)) = idxC P t (some z) := indexAddrV_lit 2
@[simp] theorem indexAddrV_3 {t : Nat} {gen : Nat → Nat} {box : Nat → List PV} {x y z u : DV} {xs : List DV} {k : IntKind} : indexAddrV P t gen box (.d (.slice (x :: y :: z :: u :: xs))) (.d (.int k 3)) = idxC P t (some u) := indexAddrV_lit 3
@[simp] theorem indexAddrV_4 {t : Nat} {gen : Nat → Nat} {box : Nat → List PV} {x y z u v : DV} {xs : List DV} {k : IntKind} : indexAddrV P t gen box (.d (.slice (x :: y :: z :: u :: v :: xs))) (.d (.int k 4)) = idxC P t (some v) := indexAddrV_lit 4
@[simp] theorem indexV_s {t : Nat} {s : List UInt8} {k : IntKind} {i : Int} (ht : P.underlying t = some .string) (h0 : 0 ≤ i) (h1 : i < s.length) : indexV P t (.d (.str s)) (.d (.int k i)) = some (.d (.int .u8 (nth s i).toNat), false) := indexV_str ht h0 h1

end
end BoEng
