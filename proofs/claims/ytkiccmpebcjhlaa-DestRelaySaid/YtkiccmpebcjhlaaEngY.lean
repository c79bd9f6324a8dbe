/- The rules of reckoning, second part: each without a side condition, so that what is stuck shows. -/
import Derived.Test.YtkiccmpebcjhlaaEngX
namespace BoEng
open Go Go.RowKit

section
variable {P : Program} {tr : List Nat} {S : PS} {K : PS → Prop} {Q : PS → Prop} {l : List CO}

@[simp] theorem start_t {args : List PV} {i : Nat} : (PS.start args).t i = args.getD i .undef := rfl
@[simp] theorem start_box {args : List PV} {i : Nat} : (PS.start args).box i = [] := rfl
@[simp] theorem start_gen {args : List PV} {i : Nat} : (PS.start args).gen i = 0 := rfl
@[simp] theorem start_own {args : List PV} {i : Loc} : (PS.start args).own i = false := rfl
@[simp] theorem getD_cons0 {α : Type} {x d : α} {l : List α} : (x :: l).getD 0 d = x := rfl
@[simp] theorem getD_consS {α : Type} {x d : α} {l : List α} {n : Nat} : (x :: l).getD (n + 1) d = l.getD n d := rfl
@[simp] theorem getD_nil' {α : Type} {d : α} {n : Nat} : ([] : List α).getD n d = d := by simp

@[simp] theorem pcells_d {x : DV} : pcells (.d x) = some ((cells x).map .d) := rfl
@[simp] theorem pcells_ptr {n g o : Nat} : pcells (.ptr n g o) = some [.ptr n g o] := rfl
@[simp] theorem pcells_bsl {n g o : Nat} : pcells (.bsl n g o) = some [.bsl n g o] := rfl
@[simp] theorem pcells_cptr {cs : List DV} : pcells (.cptr cs) = some [.cptr cs] := rfl
@[simp] theorem pcells_fn {f : FuncId} {c : List PV} : pcells (.fn f c) = some [.fn f c] := rfl
@[simp] theorem toD_nil : toD [] = some [] := rfl
@[simp] theorem toD_cons {x : DV} {r : List PV} : toD (.d x :: r) = (toD r).map (x :: ·) := rfl
@[simp] theorem toD_map {α : Type} {f : α → DV} {l : List α} : toD (l.map fun x => .d (f x)) = some (l.map f) := by
  induction l with
  | nil => rfl
  | cons x l ih => simp [ih]
@[simp] theorem toD_map' {l : List DV} : toD (l.map .d) = some l := by simpa using toD_map (f := fun x => x) (l := l)

attribute [simp] fieldAddrV fieldV lenV loadV partD

/-- A field is set. -/
def bld (P : Program) (f : Option (Nat × Nat)) (x : PV) (cs : List DV) (k : List DV → Option (List DV)) : Option (List DV) :=
  match f, x with
  | some (off, ft), .d v => if (cells v).length = szT P ft ∧ off + (cells v).length ≤ cs.length then k (cs.take off ++ cells v ++ cs.drop (off + (cells v).length)) else none
  | _, _ => none
theorem bld_congr {f f' : Option (Nat × Nat)} {x x' : PV} {cs : List DV} {k : List DV → Option (List DV)} (hf : f = f') (hx : x = x') : bld P f x cs k = bld P f' x' cs k := by rw [hf, hx]
@[simp] theorem bld_d {off ft : Nat} {v : DV} {cs : List DV} {k : List DV → Option (List DV)} : bld P (some (off, ft)) (.d v) cs k = if (cells v).length = szT P ft ∧ off + (cells v).length ≤ cs.length then k (cs.take off ++ cells v ++ cs.drop (off + (cells v).length)) else none := rfl
@[simp] theorem buildD_c {t i : Nat} {x : Operand} {r : List (Nat × Operand)} {cs : List DV} : buildD P S t ((i, x) :: r) cs = bld P (fldT P t i) (S.ev x) cs (buildD P S t r) := by
  rw [buildD]
  cases fldT P t i with
  | none => cases S.ev x <;> rfl
  | some q =>
    obtain ⟨off, ft⟩ := q
    cases S.ev x with
    | d v =>
      simp only [bld]
    | _ => rfl
def elm (sz : Nat) (x : PV) (k : Option (List DV)) : Option (List DV) := match x with | .d v => if (cells v).length = sz then k.map (v :: ·) else none | _ => none
theorem elm_congr {sz : Nat} {x x' : PV} {k k' : Option (List DV)} (hx : x = x') (hk : k = k') : elm sz x k = elm sz x' k' := by rw [hx, hk]
@[simp] theorem elm_d {sz : Nat} {v : DV} {k : Option (List DV)} : elm sz (.d v) k = if (cells v).length = sz then k.map (v :: ·) else none := rfl
@[simp] theorem elemsD_c {sz k i : Nat} {x : Operand} {r : List (Nat × Operand)} : elemsD S sz k ((i, x) :: r) = if i = k then elm sz (S.ev x) (elemsD S sz (k + 1) r) else none := by
  rw [elemsD]
  cases S.ev x with
  | d v =>
    simp only [elm]
    by_cases h1 : i = k
    · by_cases h2 : (cells v).length = sz <;> simp [h1, h2]
    · by_cases h2 : (cells v).length = sz <;> simp [h1]
  | _ => simp [elm]
def bslC (P : Program) (t : Nat) (n : Nat) : Bool := match elT P t with | some e => decide (n * szT P e ≤ 16777216 ∧ 0 < szT P e) && (zeroT P e).isSome | none => false
def eSz (P : Program) (t : Nat) : Nat := match elT P t with | some e => szT P e | none => 0
@[simp] theorem buildSliceV_c {t len : Nat} {ps : List (Nat × Operand)} : buildSliceV P S t len ps = if ps.length = len ∧ bslC P t len = true then (elemsD S (eSz P t) 0 ps).map fun xs => (.d (.slice xs), true) else none := by
  unfold buildSliceV bslC eSz
  cases elT P t with
  | none => simp
  | some e =>
    simp only [Bool.and_eq_true, decide_eq_true_eq]
    by_cases h : ps.length = len ∧ len * szT P e ≤ 16777216 ∧ 0 < szT P e ∧ (zeroT P e).isSome = true
    · rw [if_pos h, if_pos ⟨h.1, ⟨h.2.1, h.2.2.1⟩, h.2.2.2⟩]
    · rw [if_neg h, if_neg (fun k => h ⟨k.1, k.2.1.1, k.2.1.2, k.2.2⟩)]

/-- A place in a slice. -/
@[simp] theorem indexAddrV_m {α : Type} [Inhabited α] {t : Nat} {gen : Nat → Nat} {enc : α → DV} {xs : List α} {k : IntKind} {i : Int} (hs : ∀ x, (cells (enc x)).length = eSz P t) (hp : 0 < eSz P t) (h0 : 0 ≤ i) (h1 : i < xs.length) :
    indexAddrV P t gen (.d (.slice (xs.map enc))) (.d (.int k i)) = some (.cptr (cells (enc (nth xs i))), false) := by
  unfold eSz at hs hp
  cases he : elT P t with
  | none => rw [he] at hp; simp at hp
  | some e =>
    rw [he] at hs hp
    exact indexAddrV_map he hs hp h0 h1
@[simp] theorem indexAddrV_b {t n g len : Nat} {gen : Nat → Nat} {k : IntKind} {i : Int} (hs : eSz P t = 1) (h0 : 0 ≤ i) (h1 : i < len) (hg : g = gen n) :
    indexAddrV P t gen (.bsl n g len) (.d (.int k i)) = some (.ptr n g i.toNat, false) := by
  unfold eSz at hs
  cases he : elT P t with
  | none => rw [he] at hs; simp at hs
  | some e =>
    rw [he] at hs
    exact indexAddrV_bsl he hs h0 h1 hg
@[simp] theorem indexV_s {t : Nat} {s : List UInt8} {k : IntKind} {i : Int} (ht : P.underlying t = some .string) (h0 : 0 ≤ i) (h1 : i < s.length) : indexV P t (.d (.str s)) (.d (.int k i)) = some (.d (.int .u8 (nth s i).toNat), false) := indexV_str ht h0 h1

/-! ### stores -/
structure Sto where
  n : Nat
  g : Nat
  o : Nat
  cs : List PV
def stoV (P : Program) (t : Nat) (gen : Nat → Nat) (box : Nat → List PV) (x : PV) (cs : Option (List PV)) : Option Sto :=
  match x, cs with
  | .ptr n g o, some cs => if g = gen n ∧ cs.length = szT P t ∧ 0 < szT P t ∧ o + cs.length ≤ (box n).length then some ⟨n, g, o, cs⟩ else none
  | _, _ => none
theorem stoV_congr {t : Nat} {gen : Nat → Nat} {box : Nat → List PV} {x x' : PV} {cs cs' : Option (List PV)} (hx : x = x') (hc : cs = cs') : stoV P t gen box x cs = stoV P t gen box x' cs' := by rw [hx, hc]
@[simp] theorem stoV_p {t : Nat} {gen : Nat → Nat} {box : Nat → List PV} {n g o : Nat} {cs : List PV} : stoV P t gen box (.ptr n g o) (some cs) = if g = gen n ∧ cs.length = szT P t ∧ 0 < szT P t ∧ o + cs.length ≤ (box n).length then some ⟨n, g, o, cs⟩ else none := rfl
def isSl : PV → Bool | .d (.slice _) => true | _ => false
@[simp] theorem isSl_s {xs : List DV} : isSl (.d (.slice xs)) = true := rfl
def stoOwn (S : PS) (v : Operand) (n : Nat) : Bool := match v with | .tmp s => n == 1 && S.own (.t s 0) && isSl (S.t s) | .const c => isNilV c | _ => false
def stoClr (v : Operand) : Loc → Bool := match v with | .tmp s => slotOf s | _ => fun _ => false
@[simp] theorem stoOwn_t {s n : Nat} : stoOwn S (.tmp s) n = (n == 1 && S.own (.t s 0) && isSl (S.t s)) := rfl
@[simp] theorem stoOwn_c {c : Value} {n : Nat} : stoOwn S (.const c) n = isNilV c := rfl
@[simp] theorem stoClr_t {s : Nat} : stoClr (.tmp s) = slotOf s := rfl
@[simp] theorem stoClr_c {c : Value} : stoClr (.const c) = fun _ => false := rfl
/-- Cells are laid over others. -/
def over (l : List PV) (o : Nat) (cs : List PV) : List PV := l.take o ++ cs ++ l.drop (o + cs.length)
theorem ow_sto {t : TypeId} {x v : Operand} : ow P tr none (.store t x v) S K = onC (stoV P t S.gen S.box (S.ev x) (pcells (S.ev v))) fun q =>
    K (S.putB none .undef q.n q.g (over (S.box q.n) q.o q.cs) (fun k => if q.o ≤ k ∧ k < q.o + q.cs.length then stoOwn S v q.cs.length else S.own (.b q.n k)) (stoClr v)) := by
  rw [ow_plainE (by simp)]
  cases hx : S.ev x with
  | ptr n g o =>
    cases hc : pcells (S.ev v) with
    | none =>
      have : effF P ((none : Option Nat).getD 0 + 1) tr S { dst := none, op := .store t x v, type := 0, pos := "", after := #[], guard := none } = none := by
        simp only [effF, dstOk, hx, hc]
        rfl
      rw [this]
      rfl
    | some cs =>
      by_cases h : g = S.gen n ∧ cs.length = szT P t ∧ 0 < szT P t ∧ o + cs.length ≤ (S.box n).length
      · rw [stoV_p, if_pos h]
        cases v with
        | tmp s =>
          have e1 : (match S.t s with | .d (.slice _) => true | _ => false) = isSl (S.t s) := by
            unfold isSl
            rfl
          have : effF P ((none : Option Nat).getD 0 + 1) tr S { dst := none, op := .store t x (.tmp s), type := 0, pos := "", after := #[], guard := none } = some ⟨none, .undef, fun _ => false, slotOf s, some (n, g, over (S.box n) o cs, fun k => if o ≤ k ∧ k < o + cs.length then cs.length == 1 && S.own (.t s 0) && isSl (S.t s) else S.own (.b n k))⟩ := by
            simp only [effF, dstOk, hx, hc]
            simp only [if_true]
            rw [if_pos h]
            rfl
          rw [this]
          rfl
        | const c =>
          have : effF P ((none : Option Nat).getD 0 + 1) tr S { dst := none, op := .store t x (.const c), type := 0, pos := "", after := #[], guard := none } = some ⟨none, .undef, fun _ => false, fun _ => false, some (n, g, over (S.box n) o cs, fun k => if o ≤ k ∧ k < o + cs.length then isNilV c else S.own (.b n k))⟩ := by
            simp only [effF, dstOk, hx, hc]
            simp only [if_true]
            rw [if_pos h]
            rfl
          rw [this]
          rfl
        | global q =>
          have : effF P ((none : Option Nat).getD 0 + 1) tr S { dst := none, op := .store t x (.global q), type := 0, pos := "", after := #[], guard := none } = some ⟨none, .undef, fun _ => false, fun _ => false, some (n, g, over (S.box n) o cs, fun k => if o ≤ k ∧ k < o + cs.length then false else S.own (.b n k))⟩ := by
            simp only [effF, dstOk, hx, hc]
            simp only [if_true]
            rw [if_pos h]
            rfl
          rw [this]
          rfl
        | func q =>
          have : effF P ((none : Option Nat).getD 0 + 1) tr S { dst := none, op := .store t x (.func q), type := 0, pos := "", after := #[], guard := none } = some ⟨none, .undef, fun _ => false, fun _ => false, some (n, g, over (S.box n) o cs, fun k => if o ≤ k ∧ k < o + cs.length then false else S.own (.b n k))⟩ := by
            simp only [effF, dstOk, hx, hc]
            simp only [if_true]
            rw [if_pos h]
            rfl
          rw [this]
          rfl
      · rw [stoV_p, if_neg h]
        have : effF P ((none : Option Nat).getD 0 + 1) tr S { dst := none, op := .store t x v, type := 0, pos := "", after := #[], guard := none } = none := by
          simp only [effF, dstOk, hx, hc]
          simp only [if_true]
          rw [if_neg h]
        rw [this]
        rfl
  | _ =>
    have : effF P ((none : Option Nat).getD 0 + 1) tr S { dst := none, op := .store t x v, type := 0, pos := "", after := #[], guard := none } = none := by
      simp [effF, dstOk, hx]
    rw [this]
    simp [stoV, onC]

/-! ### what is taken out of a box, of several results -/
def trO (S : PS) (x : PV) : Nat → Bool := match x with | .ptr n _ o => fun j => j == 0 && S.own (.b n o) | _ => fun _ => false
def trC (x : PV) : Loc → Bool := match x with | .ptr n _ o => fun l => l == .b n o | _ => fun _ => false
@[simp] theorem trO_p {n g o : Nat} : trO S (.ptr n g o) = fun j => j == 0 && S.own (.b n o) := rfl
@[simp] theorem trC_p {n g o : Nat} : trC (.ptr n g o) = fun l => l == .b n o := rfl
def isPtr : PV → Bool | .ptr .. => true | _ => false
@[simp] theorem isPtr_p {n g o : Nat} : isPtr (.ptr n g o) = true := rfl
theorem ow_loadTr {d : Nat} {t : TypeId} {x : Operand} (h : d ∈ tr) (ha : aggT P t = some false) (hx : isPtr (S.ev x) = true) :
    ow P tr (some d) (.load t x) S K = onL (loadV P S.gen S.box t (S.ev x)) fun r => K (S.putO d r (trO S (S.ev x)) (trC (S.ev x))) := by
  cases hs : S.ev x with
  | ptr n g o =>
    have := ow_loadT (P := P) (K := K) h hs ha
    rw [hs] at this
    exact this
  | _ => rw [hs] at hx; cases hx
def extV (p : PV) (k : Nat) : Option PV := match p with | .tup ps => (match ps[k]? with | some (.tup _) => none | some p => some p | none => none) | _ => none
@[simp] theorem extV_tup {ps : List PV} {k : Nat} : extV (.tup ps) k = (match ps[k]? with | some (.tup _) => none | some p => some p | none => none) := rfl
theorem ow_ext {d s k : Nat} : ow P tr (some d) (.extract (.tmp s) k) S K = onL (extV (S.t s) k) fun p => K (S.putO d p (fun j => j == 0 && S.own (.t s k)) (fun l => l == .t s k)) := by
  rw [ow_plainE (by simp)]
  cases hs : S.t s with
  | tup ps =>
    simp only [extV]
    cases hp : ps[k]? with
    | none => simp [effF, dstOk, hs, hp, onL]
    | some p =>
      cases p with
      | tup q => simp [effF, dstOk, hs, hp, onL]
      | _ => simp [effF, dstOk, hs, hp, onL, apply_putO]
  | _ => simp [effF, dstOk, hs, extV, onL]

/-! ### appends, new slices -/
/-- What an append asks of a type: the size in bytes of an element, if all is well. -/
def apT (P : Program) (t : Nat) : Option (Nat × Nat × DV × Bool) :=
  match elT P t with
  | some e => match bytT P e, zeroT P e with
    | some b, some z => if z.cells.size = szT P e ∧ 0 < szT P e ∧ 0 < b then some (szT P e, b, ofConstD z, z.oneCell') else none
    | _, _ => none
  | none => none
def apS (u : Option TypeDesc) (z : DV) (o : Bool) (y : PV) : Option (List DV) :=
  match y, u with
  | .d (.slice ys), some (.slice _) => some ys
  | .d (.str s), some .string => some (s.map byteD)
  | .d (.int _ n), some (.int _) => if 0 ≤ n ∧ n ≤ 9223372036854775807 ∧ o = true then some (List.replicate n.toNat z) else none
  | _, _ => none
@[simp] theorem apS_s {e : TypeId} {z : DV} {o : Bool} {ys : List DV} : apS (some (.slice e)) z o (.d (.slice ys)) = some ys := rfl
@[simp] theorem apS_str {z : DV} {o : Bool} {s : List UInt8} : apS (some .string) z o (.d (.str s)) = some (s.map byteD) := rfl
@[simp] theorem apS_n {k k' : IntKind} {z : DV} {o : Bool} {n : Int} : apS (some (.int k)) z o (.d (.int k' n)) = if 0 ≤ n ∧ n ≤ 9223372036854775807 ∧ o = true then some (List.replicate n.toNat z) else none := rfl
def apV (q : Option (Nat × Nat × DV × Bool)) (u : Option TypeDesc) (own : Bool) (x y : PV) : Option (List DV) :=
  match q, x with
  | some (sz, b, z, o), .d (.slice xs) => (apS u z o y).bind fun ys => if own = true ∧ szOk sz xs = true ∧ szOk sz ys = true ∧ (xs.length + ys.length) * b ≤ 140737488355328 then some (xs ++ ys) else none
  | _, _ => none
@[simp] theorem apV_s {sz b : Nat} {z : DV} {o own : Bool} {u : Option TypeDesc} {xs : List DV} {y : PV} : apV (some (sz, b, z, o)) u own (.d (.slice xs)) y = (apS u z o y).bind fun ys => if own = true ∧ szOk sz xs = true ∧ szOk sz ys = true ∧ (xs.length + ys.length) * b ≤ 140737488355328 then some (xs ++ ys) else none := rfl
theorem ow_app {d s t tx : Nat} {x : Operand} : ow P tr (some d) (.call ⟨.builtin .append, ⟨[.tmp s, x]⟩, ⟨[t, tx]⟩⟩) S K =
    onC (apV (apT P t) (P.underlying tx) (S.own (.t s 0)) (S.t s) (S.ev x)) fun xs => K (S.putO d (.d (.slice xs)) (fun j => j == 0) (slotOf s)) := by
  rw [ow_plainE (by simp)]
  have key : effF P ((some d).getD 0 + 1) tr S { dst := some d, op := .call ⟨.builtin .append, ⟨[.tmp s, x]⟩, ⟨[t, tx]⟩⟩, type := 0, pos := "", after := #[], guard := none } =
      (apV (apT P t) (P.underlying tx) (S.own (.t s 0)) (S.t s) (S.ev x)).map fun xs => ⟨some d, .d (.slice xs), fun j => j == 0, slotOf s, none⟩ := by
    simp only [effF, dstOk, appEff]
    simp only [Option.getD_some, Nat.lt_add_one, decide_true, if_true]
    unfold apT
    cases he : elT P t with
    | none => simp [apV]
    | some e =>
      cases hs : S.t s with
      | d xv =>
        cases xv with
        | slice xs =>
          simp only
          cases hb : bytT P e with
          | none => cases appSrc P S e x tx <;> simp [apV]
          | some b =>
            cases hz : zeroT P e with
            | none => cases appSrc P S e x tx <;> simp [apV]
            | some z =>
              have hap : appSrc P S e x tx = apS (P.underlying tx) (ofConstD z) (z.oneCell') (S.ev x) := by
                unfold appSrc apS
                rw [hz]
                cases S.ev x with
                | d y => cases y <;> first | rfl | (cases P.underlying tx with
                    | none => rfl
                    | some u => cases u <;> rfl)
                | _ => rfl
              rw [hap]
              simp only
              by_cases h1 : z.cells.size = szT P e ∧ 0 < szT P e ∧ 0 < b
              · rw [if_pos h1, apV_s]
                cases apS (P.underlying tx) (ofConstD z) (z.oneCell') (S.ev x) with
                | none => rfl
                | some ys =>
                  simp only [Option.bind_some]
                  by_cases h2 : S.own (.t s 0) = true ∧ szOk (szT P e) xs = true ∧ szOk (szT P e) ys = true ∧ (xs.length + ys.length) * b ≤ 140737488355328
                  · rw [if_pos h2, if_pos ⟨h2.1, h1.1, h2.2.1, h2.2.2.1, h1.2.1, h1.2.2, h2.2.2.2⟩]; rfl
                  · rw [if_neg h2, if_neg (fun k => h2 ⟨k.1, k.2.2.1, k.2.2.2.1, k.2.2.2.2.2.2⟩)]; rfl
              · rw [if_neg h1]
                cases apS (P.underlying tx) (ofConstD z) (z.oneCell') (S.ev x) with
                | none => rfl
                | some ys =>
                  simp only
                  rw [if_neg (fun k => h1 ⟨k.2.1, k.2.2.2.2.1, k.2.2.2.2.2.1⟩)]
                  rfl
        | _ => simp [apV]
      | _ => simp [apV]
  rw [key]
  cases apV (apT P t) (P.underlying tx) (S.own (.t s 0)) (S.t s) (S.ev x) with
  | none => rfl
  | some xs => simp [onC, apply_putO]
def mkV (q : Option (Nat × Nat × DV × Bool)) (x y : PV) : Option (Nat × DV) :=
  match q, x, y with
  | some (sz, b, z, o), .d (.int _ n), .d (.int _ m) => if n = m ∧ 0 ≤ n ∧ n ≤ 9223372036854775807 ∧ n * b ≤ 281474976710656 ∧ sz = 1 ∧ o = true then some (n.toNat, z) else none
  | _, _, _ => none
@[simp] theorem mkV_n {sz b : Nat} {z : DV} {o : Bool} {k k' : IntKind} {n m : Int} : mkV (some (sz, b, z, o)) (.d (.int k n)) (.d (.int k' m)) = if n = m ∧ 0 ≤ n ∧ n ≤ 9223372036854775807 ∧ n * b ≤ 281474976710656 ∧ sz = 1 ∧ o = true then some (n.toNat, z) else none := rfl
theorem ow_mk {d t : Nat} {l c : Operand} {n : Nat} {z : DV} (h : mkV (apT P t) (S.ev l) (S.ev c) = some (n, z)) :
    ow P tr (some d) (.makeSlice t l c) S K = K (S.putB (some d) (.bsl (FO + d) (S.gen (FO + d) + 1) n) (FO + d) (S.gen (FO + d) + 1) (List.replicate n (.d z)) (fun _ => false) (fun _ => false)) := by
  unfold apT at h
  cases he : elT P t with
  | none => rw [he] at h; simp [mkV] at h
  | some e =>
    rw [he] at h
    simp only at h
    cases hb : bytT P e with
    | none => rw [hb] at h; simp [mkV] at h
    | some b =>
      cases hz : zeroT P e with
      | none => rw [hb, hz] at h; simp [mkV] at h
      | some z' =>
        rw [hb, hz] at h
        simp only at h
        split at h
        · unfold mkV at h
          split at h
          · rename_i k n' k' m hq hl hc
            cases hq
            split at h
            · rename_i hh
              cases h
              obtain ⟨rfl, h0, h1, h2, h3, h4⟩ := hh
              exact ow_makeSlice he hl hc hz hb h0 h1 h2 h3 h4
            · cases h
          · cases h
        · simp [mkV] at h
end
end BoEng
