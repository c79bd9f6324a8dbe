/- The pure machine's values and states; when a frame and a world stand for a state. -/
import Derived.Test.YtoamihggbaaohaaEngA
namespace BoEng
open Go Go.RowKit

/-- A block of memory, and how many cells it has. -/
structure Blk where
  b : Nat
  c : Nat

/-- What a slot holds: data; the place in a box of one's own ('ptr': its name, its turn, the cell); a place in memory that nobody writes ('cptr': what lies from there on); a slice that is a whole box ('bsl': its name, its turn, how many elements of how many cells, whether they are structs); a struct whose cells are not all data ('pa'); a function with what it has caught; several results; whatever ('any'). -/
inductive PV where
  | d (x : DV)
  | ptr (name gen off : Nat)
  | cptr (cs : List DV)
  | bsl (name gen len sz : Nat) (ag : Bool)
  | pa (cs : List PV)
  | fn (f : FuncId) (caps : List PV)
  | tup (vs : List PV)
  | any
  deriving Inhabited

abbrev PV.undef : PV := .tup []

inductive PRep (w : World) (fr : Nat → Option Nat) (β : Nat → Blk) (gen : Nat → Nat) : Value → PV → Prop
  | d (v x) (h : DRep w fr v x) : PRep w fr β gen v (.d x)
  | ptr (a : Addr) (n g o : Nat) (h0 : 0 < g) (hg : g ≤ gen n) (hs : a.spot = none) (h : g = gen n → a = ⟨(β n).b, o, none⟩) : PRep w fr β gen (.pointer (some a)) (.ptr n g o)
  | cptr (ad : Addr) (us : Nat → Value) (cs : List DV) (hs : ad.spot = none) (hf : ∀ f, fr ad.block = some f → ∀ k, k < cs.length → ad.off + k < f)
      (hc : ∀ k, k < cs.length → w.cell? ⟨ad.block, ad.off + k, none⟩ = some (us k)) (h1 : ∀ k, k < cs.length → one (us k))
      (h : ∀ (k : Nat) (p : DV), cs[k]? = some p → DRep w fr (us k) p) : PRep w fr β gen (.pointer (some ad)) (.cptr cs)
  | bsl (A : Option Addr) (n g len sz cap : Nat) (ag : Bool) (h0 : 0 < g) (hg : g ≤ gen n) (hs : 0 < sz) (h : g = gen n → (0 < (β n).c → A = some ⟨(β n).b, 0, none⟩) ∧ len ≤ cap ∧ cap * sz = (β n).c) : PRep w fr β gen (.slice A len cap) (.bsl n g len sz ag)
  | pa (vs : List Value) (cs : List PV) (hl : vs.length = cs.length) (h1 : ∀ v ∈ vs, one v)
      (h : ∀ (k : Nat) (v : Value) (p : PV), vs[k]? = some v → cs[k]? = some p → PRep w fr β gen v p) : PRep w fr β gen (.agg vs.toArray) (.pa cs)
  | fn (f : FuncId) (vs : List Value) (caps : List PV) (hl : vs.length = caps.length)
      (h : ∀ (k : Nat) (v : Value) (p : PV), vs[k]? = some v → caps[k]? = some p → PRep w fr β gen v p) : PRep w fr β gen (.func (.func f) #[] vs.toArray) (.fn f caps)
  | tup (vs : List Value) (ps : List PV) (hl : vs.length = ps.length)
      (h : ∀ (k : Nat) (v : Value) (p : PV), vs[k]? = some v → ps[k]? = some p → PRep w fr β gen v p) : PRep w fr β gen (.tuple vs.toArray) (.tup ps)
  | any (v) (hb : ∀ b, v ≠ .bool b) : PRep w fr β gen v .any

/-- Later turns; a name whose turn is the same is the same block. -/
structure GExt (β : Nat → Blk) (gen : Nat → Nat) (β' : Nat → Blk) (gen' : Nat → Nat) : Prop where
  le : ∀ n, gen n ≤ gen' n
  same : ∀ n, gen' n = gen n → 0 < gen n → β' n = β n

theorem GExt.refl (β : Nat → Blk) (gen : Nat → Nat) : GExt β gen β gen := ⟨fun _ => Nat.le_refl _, fun _ _ _ => rfl⟩
theorem GExt.trans {β0 : Nat → Blk} {g0 : Nat → Nat} {β : Nat → Blk} {g : Nat → Nat} {β' : Nat → Blk} {g' : Nat → Nat} (h : GExt β0 g0 β g) (k : GExt β g β' g') : GExt β0 g0 β' g' := by
  refine ⟨fun n => Nat.le_trans (h.le n) (k.le n), fun n e h0 => ?_⟩
  have h1 := h.le n
  have h2 := k.le n
  have e1 : g n = g0 n := by omega
  rw [k.same n (by omega) (by omega), h.same n e1 h0]

theorem PRep.mono {w w' : World} {fr fr' : Nat → Option Nat} {β : Nat → Blk} {gen : Nat → Nat} {β' : Nat → Blk} {gen' : Nat → Nat} (hx : DExt w fr w' fr') (hb : GExt β gen β' gen')
    {v : Value} {p : PV} (h : PRep w fr β gen v p) : PRep w' fr' β' gen' v p := by
  induction h with
  | d v x h => exact .d v x (h.mono hx)
  | ptr a n g o h0 hg hs h =>
    refine .ptr a n g o h0 (Nat.le_trans hg (hb.le n)) hs fun e => ?_
    have h1 : gen' n = gen n := Nat.le_antisymm (e ▸ hg) (hb.le n)
    rw [hb.same n h1 (by omega)]
    exact h (by omega)
  | cptr ad us cs hs hf hc h1 h =>
    refine .cptr ad us cs hs (fun f' hf' k hk => ?_) (fun k hk => hx.cell _ _ _ (hc k hk) fun f e => hf f e k hk) h1 fun k p hp => (h k p hp).mono hx
    obtain ⟨f, e1, hle⟩ := hx.reg _ f' (cell_lt (hc k hk)) hf'
    exact Nat.lt_of_lt_of_le (hf f e1 k hk) hle
  | bsl A n g len sz cap ag h0 hg hs h =>
    refine .bsl A n g len sz cap ag h0 (Nat.le_trans hg (hb.le n)) hs fun e => ?_
    have h1 : gen' n = gen n := Nat.le_antisymm (e ▸ hg) (hb.le n)
    rw [hb.same n h1 (by omega)]
    exact h (by omega)
  | pa vs cs hl h1 h ih => exact .pa vs cs hl h1 ih
  | fn f vs caps hl h ih => exact .fn f vs caps hl ih
  | tup vs ps hl h ih => exact .tup vs ps hl ih
  | any v hb => exact .any v hb

/-- A place of which it may be told that its slice is one's own: a part of a slot, a cell of a box. -/
inductive Loc where
  | t (i j : Nat)
  | b (n k : Nat)
  deriving DecidableEq

def upd {α : Type} (f : Nat → α) (i : Nat) (v : α) : Nat → α := fun j => if j = i then v else f j

structure PS where
  t : Nat → PV
  box : Nat → List PV
  gen : Nat → Nat
  own : Loc → Bool
  fo : Nat

/-- Is it a slice? -/
def isSl : PV → Bool | .d (.slice _) => true | _ => false
theorem isSl_at {p : PV} (h : isSl p = true) : ∃ xs, p = .d (.slice xs) := by
  unfold isSl at h
  split at h
  · exact ⟨_, rfl⟩
  · cases h
def PV.part (p : PV) (j : Nat) : PV := match p with | .tup vs => vs.getD j .any | .pa cs => cs.getD j .any | .d (.agg xs) => (xs.map .d).getD j .any | p => p
def vpart (v : Value) (j : Nat) : Value := match v with | .tuple vs => vs.getD j undef | .agg vs => vs.getD j undef | v => v

def PS.at (S : PS) : Loc → PV
  | .t i j => (S.t i).part j
  | .b n k => (S.box n).getD k .any

def vat (a : Act) (w : World) (β : Nat → Blk) : Loc → Value
  | .t i j => vpart (a.tmps.getD i undef) j
  | .b n k => (w.cell? ⟨(β n).b, k, none⟩).getD undef

/-- The block that an append to a slice may write. -/
def rowOf (v : Value) : Option Nat := match v with | .slice (some a) n c => if n < c then some a.block else none | _ => none

/-- A slice of one's own: there is no room behind it, or all behind it is one's own. -/
def OwnOk (tch : Nat → Prop) (w0 w : World) (fr : Nat → Option Nat) (v : Value) (p : PV) : Prop :=
  ∃ xs, p = .d (.slice xs) ∧ ((∃ A n, v = .slice A n n) ∨
    ∃ b c cur E sz, v = .slice (some ⟨b, 0, none⟩) xs.length c ∧ xs.length < c ∧ 0 < xs.length ∧ 0 < sz ∧ w.heap[b]? = some (.cells cur E (0, 0)) ∧ (∀ x ∈ xs, (cells x).length = sz) ∧
      cur.size = c * sz ∧ fr b = some (xs.length * sz) ∧ (w0.heap.size ≤ b ∨ tch b))

structure BoxOk (tch : Nat → Prop) (w0 w : World) (fr : Nat → Option Nat) (β : Nat → Blk) (gen : Nat → Nat) (B : Blk) (ps : List PV) : Prop where
  len : ps.length ≤ B.c
  ex : 0 < B.c → ∃ cs E, w.heap[B.b]? = some (.cells cs E (0, 0)) ∧ cs.size = B.c ∧ ∀ (k : Nat) (u : Value) (p : PV), cs[k]? = some u → ps[k]? = some p → PRep w fr β gen u p ∧ one u
  reg : 0 < B.c → fr B.b = some 0
  mine : 0 < B.c → w0.heap.size ≤ B.b ∨ tch B.b

/-- What is around a function: which old blocks it may touch; the boxes as they were when it began. -/
structure Env where
  tch : Nat → Prop
  β0 : Nat → Blk
  g0 : Nat → Nat
instance : CoeFun Env (fun _ => Nat → Prop) := ⟨Env.tch⟩
def Env.free : Env := ⟨fun _ => False, fun _ => ⟨0, 0⟩, fun _ => 0⟩

structure Sim (N : Nat) (tch : Env) (w0 : World) (fr0 : Nat → Option Nat) (S : PS) (a : Act) (w : World) (fr : Nat → Option Nat) (β : Nat → Blk) : Prop where
  defers : a.defers = []
  ntmps : a.tmps.size = N
  os : w.os = w0.os
  tape : w.tape = w0.tape
  output : w.output = w0.output
  size : w0.heap.size ≤ w.heap.size
  frb : ∀ b f, fr b = some f → b < w.heap.size
  frame : ∀ b, b < w0.heap.size → ¬ tch b → w.heap[b]? = w0.heap[b]? ∧ fr b = fr0 b
  keep : ∀ b, tch b → b < w0.heap.size ∧ ∃ f0 f, fr0 b = some f0 ∧ fr b = some f ∧ f0 ≤ f ∧ ∀ k u, k < f0 → w0.cell? ⟨b, k, none⟩ = some u → w.cell? ⟨b, k, none⟩ = some u
  vals : ∀ i, PRep w fr β S.gen (a.tmps.getD i undef) (S.t i)
  boxes : ∀ n, 0 < S.gen n → BoxOk tch.tch w0 w fr β S.gen (β n) (S.box n)
  binj : ∀ n m, 0 < S.gen n → 0 < S.gen m → 0 < (β n).c → 0 < (β m).c → (β n).b = (β m).b → n = m
  own : ∀ l, S.own l = true → OwnOk tch.tch w0 w fr (vat a w β l) (S.at l)
  live : ∀ n k, S.own (.b n k) = true → 0 < S.gen n ∧ k < (S.box n).length
  oinj : ∀ l l', S.own l = true → S.own l' = true → l ≠ l' → ∀ b, rowOf (vat a w β l) = some b → rowOf (vat a w β l') ≠ some b
  ext : GExt tch.β0 tch.g0 β S.gen

section
variable {N : Nat} {tch : Env} {w0 : World} {fr0 : Nat → Option Nat} {S : PS} {a : Act} {w : World} {fr : Nat → Option Nat} {β : Nat → Blk}

theorem Sim.dext (h : Sim N tch w0 fr0 S a w fr β) : DExt w0 fr0 w fr := by
  refine ⟨fun b o u hc hf => ?_, fun b f' hb hf => ?_, h.size⟩
  · by_cases ht : tch b
    · obtain ⟨_, f0, f, e0, e, hle, hk⟩ := h.keep b ht
      exact hk o u (hf f0 e0) hc
    · rw [World.cell?_of_block (w := w0) (h.frame b (cell_lt hc) ht).1]
      exact hc
  · by_cases ht : tch b
    · obtain ⟨_, f0, f, e0, e, hle, hk⟩ := h.keep b ht
      rw [e] at hf
      cases hf
      exact ⟨f0, e0, hle⟩
    · rw [(h.frame b hb ht).2] at hf
      exact ⟨f', hf, Nat.le_refl _⟩

theorem vpart_slice (A : Option Addr) (n c j : Nat) : vpart (.slice A n c) j = .slice A n c := rfl

theorem OwnOk.same {tch : Nat → Prop} {w0 w w' : World} {fr fr' : Nat → Option Nat} {v : Value} {p : PV} (h : OwnOk tch w0 w fr v p)
    (hb : ∀ b, rowOf v = some b → w'.heap[b]? = w.heap[b]? ∧ fr' b = fr b) : OwnOk tch w0 w' fr' v p := by
  obtain ⟨xs, rfl, h⟩ := h
  refine ⟨xs, rfl, ?_⟩
  rcases h with h | ⟨b, c, cur, E, sz, rfl, hn, h0, h00, hh, hz, hs, hf, hm⟩
  · exact .inl h
  · obtain ⟨e1, e2⟩ := hb b (by simp [rowOf, hn])
    exact .inr ⟨b, c, cur, E, sz, rfl, hn, h0, h00, by rw [e1]; exact hh, hz, hs, by rw [e2]; exact hf, hm⟩

/-- The block of a slice of one's own is registered (and no box). -/
theorem OwnOk.row {tch : Nat → Prop} {w0 w : World} {fr : Nat → Option Nat} {v : Value} {p : PV} (h : OwnOk tch w0 w fr v p) {b : Nat} (hb : rowOf v = some b) : b < w.heap.size := by
  obtain ⟨xs, rfl, h⟩ := h
  rcases h with ⟨A, n, rfl⟩ | ⟨b', c, cur, E, sz, rfl, hn, h0, h00, hh, hz, hs, hf, hm⟩
  · cases A <;> simp [rowOf] at hb
  · have e : b' = b := by simpa [rowOf, hn] using hb
    subst e
    exact (Array.getElem?_eq_some_iff.1 hh).1

/-- The world has grown: no old block is another, none is registered otherwise. -/
structure Fresh (w : World) (fr : Nat → Option Nat) (w' : World) (fr' : Nat → Option Nat) : Prop where
  os : w'.os = w.os
  tape : w'.tape = w.tape
  output : w'.output = w.output
  size : w.heap.size ≤ w'.heap.size
  old : ∀ b, b < w.heap.size → w'.heap[b]? = w.heap[b]?
  reg : ∀ b, b < w.heap.size → fr' b = fr b
  frb : ∀ b f, fr' b = some f → b < w'.heap.size

theorem Fresh.dext {w w' : World} {fr fr' : Nat → Option Nat} (h : Fresh w fr w' fr') : DExt w fr w' fr' :=
  ⟨fun b o u hc _ => by rw [World.cell?_of_block (w := w) (h.old b (cell_lt hc))]; exact hc, fun b f' hb hf => ⟨f', by rw [← h.reg b hb]; exact hf, Nat.le_refl _⟩, h.size⟩

theorem Fresh.cell {w w' : World} {fr fr' : Nat → Option Nat} (h : Fresh w fr w' fr') {b o : Nat} (hb : b < w.heap.size) : w'.cell? ⟨b, o, none⟩ = w.cell? ⟨b, o, none⟩ :=
  World.cell?_of_block (w := w) (h.old b hb)

/-- A box has cells where it has content. -/
theorem BoxOk.at {tch : Nat → Prop} {w0 w : World} {fr : Nat → Option Nat} {β : Nat → Blk} {gen : Nat → Nat} {B : Blk} {ps : List PV} (h : BoxOk tch w0 w fr β gen B ps) {k : Nat} (hk : k < ps.length) : 0 < B.c :=
  Nat.lt_of_lt_of_le (Nat.lt_of_le_of_lt (Nat.zero_le _) hk) h.len

theorem Sim.fresh (h : Sim N tch w0 fr0 S a w fr β) {w' : World} {fr' : Nat → Option Nat} (hx : Fresh w fr w' fr') : Sim N tch w0 fr0 S a w' fr' β := by
  have hd := hx.dext
  have hg := GExt.refl β S.gen
  have hvat : ∀ l, S.own l = true → vat a w' β l = vat a w β l := by
    intro l hl
    cases l with
    | t i j => rfl
    | b n k =>
      have hb := h.boxes n (h.live n k hl).1
      obtain ⟨cs, E, hc, _⟩ := hb.ex (hb.at (h.live n k hl).2)
      simp only [vat]
      rw [hx.cell (Array.getElem?_eq_some_iff.1 hc).1]
  refine ⟨h.defers, h.ntmps, hx.os.trans h.os, hx.tape.trans h.tape, hx.output.trans h.output, Nat.le_trans h.size hx.size, hx.frb, fun b hb ht => ?_, fun b ht => ?_, fun i => (h.vals i).mono hd hg, fun n hn => ?_, h.binj, fun l hl => ?_, h.live, fun l l' hl hl' hne b hb => ?_, h.ext⟩
  · have hb' := Nat.lt_of_lt_of_le hb h.size
    exact ⟨(hx.old b hb').trans (h.frame b hb ht).1, (hx.reg b hb').trans (h.frame b hb ht).2⟩
  · obtain ⟨hb, f0, f, e0, e, hle, hk⟩ := h.keep b ht
    have hb' := Nat.lt_of_lt_of_le hb h.size
    exact ⟨hb, f0, f, e0, by rw [hx.reg b hb']; exact e, hle, fun k u hk0 hc => by rw [hx.cell hb']; exact hk k u hk0 hc⟩
  · obtain ⟨hlen, hex, hreg, hmine⟩ := h.boxes n hn
    refine ⟨hlen, fun h0 => ?_, fun h0 => ?_, hmine⟩
    · obtain ⟨cs, E, hc, hs, hp⟩ := hex h0
      have hb := (Array.getElem?_eq_some_iff.1 hc).1
      exact ⟨cs, E, by rw [hx.old _ hb]; exact hc, hs, fun k u p hu hp' => ⟨(hp k u p hu hp').1.mono hd hg, (hp k u p hu hp').2⟩⟩
    · obtain ⟨cs, E, hc, hs, hp⟩ := hex h0
      have hb := (Array.getElem?_eq_some_iff.1 hc).1
      rw [hx.reg _ hb]
      exact hreg h0
  · rw [hvat l hl]
    refine (h.own l hl).same fun b hb => ?_
    have := (h.own l hl).row hb
    exact ⟨hx.old b this, hx.reg b this⟩
  · rw [hvat l hl] at hb
    rw [hvat l' hl']
    exact h.oinj l l' hl hl' hne b hb
end

end BoEng
