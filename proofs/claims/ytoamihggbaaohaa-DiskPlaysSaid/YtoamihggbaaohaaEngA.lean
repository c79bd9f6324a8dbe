/- The pure machine's data, and what it means that a value of the model stands for a datum. -/
import Derived.Calls
import Derived.Orders
import Derived.WalkKit
import Derived.Below
import Derived.Laws.Append
import Derived.Laws.AppendOwn
import Derived.Laws.MakeOwn
import Derived.Laws.CopyRow
import Derived.Lib.ConvBytes
import Derived.Deep.Draws
namespace BoEng
open Go Go.RowKit

/-- Data: no memory in it. -/
inductive DV where
  | int (k : IntKind) (n : Int)
  | bool (b : Bool)
  | str (s : List UInt8)
  | slice (xs : List DV)
  | agg (cs : List DV)
  | opq (v : Value)
  deriving Inhabited

/-- The cells that a datum takes. -/
def cells : DV → List DV
  | .agg cs => cs
  | d => [d]

def flat (xs : List DV) : List DV := xs.flatMap cells

theorem flat_nil : flat [] = [] := rfl
theorem flat_cons (x : DV) (xs : List DV) : flat (x :: xs) = cells x ++ flat xs := by simp [flat]
theorem flat_append (xs ys : List DV) : flat (xs ++ ys) = flat xs ++ flat ys := by simp [flat]

theorem flat_length {xs : List DV} {sz : Nat} (h : ∀ x ∈ xs, (cells x).length = sz) : (flat xs).length = xs.length * sz := by
  induction xs with
  | nil => simp [flat]
  | cons x xs ih =>
    rw [flat_cons, List.length_append, ih (fun y hy => h y (List.mem_cons_of_mem _ hy)), h x List.mem_cons_self, List.length_cons, Nat.succ_mul]
    omega

/-- The cells of the element at a place. -/
theorem flat_at {xs : List DV} {sz : Nat} (h : ∀ x ∈ xs, (cells x).length = sz) (j : Nat) (x : DV) (hj : xs[j]? = some x) (k : Nat) (hk : k < sz) :
    (flat xs)[j * sz + k]? = (cells x)[k]? := by
  induction xs generalizing j with
  | nil => simp at hj
  | cons y ys ih =>
    have hy := h y List.mem_cons_self
    rw [flat_cons]
    cases j with
    | zero =>
      simp at hj
      subst hj
      rw [Nat.zero_mul, Nat.zero_add, List.getElem?_append_left (by omega)]
    | succ j =>
      simp at hj
      rw [Nat.succ_mul, List.getElem?_append_right (by omega)]
      have := ih (fun z hz => h z (List.mem_cons_of_mem _ hz)) j hj
      rw [show j * sz + sz + k - (cells y).length = j * sz + k by omega]
      exact this

/-- One cell's value. -/
def one (v : Value) : Prop := v.oneCell' = true

/-- In the world 'w', of whose registered blocks the first cells alone (up to the frontier 'fr') may be leant on, a value stands for a datum. -/
inductive DRep (w : World) (fr : Nat → Option Nat) : Value → DV → Prop
  | int (k n) : DRep w fr (.int k n) (.int k n)
  | bool (b) : DRep w fr (.bool b) (.bool b)
  | str (s : List UInt8) : DRep w fr (.string ⟨s.toArray⟩) (.str s)
  | opq (v : Value) (hb : ∀ b, v ≠ .bool b) (h1 : one v) : DRep w fr v (.opq v)
  | agg (vs : List Value) (cs : List DV) (hl : vs.length = cs.length) (h1 : ∀ v ∈ vs, one v)
      (h : ∀ (k : Nat) (v : Value) (p : DV), vs[k]? = some v → cs[k]? = some p → DRep w fr v p) : DRep w fr (.agg vs.toArray) (.agg cs)
  | slice (A : Option Addr) (cap sz : Nat) (us : Nat → Value) (xs : List DV) (hcap : xs.length ≤ cap) (hsz : ∀ x ∈ xs, (cells x).length = sz)
      (ha : 0 < xs.length → ∃ ad, A = some ad ∧ ad.spot = none ∧ (∀ f, fr ad.block = some f → ∀ k, k < xs.length * sz → ad.off + k < f) ∧
        ∀ k, k < xs.length * sz → w.cell? ⟨ad.block, ad.off + k, none⟩ = some (us k))
      (h1 : ∀ k, k < xs.length * sz → one (us k))
      (h : ∀ (k : Nat) (p : DV), (flat xs)[k]? = some p → DRep w fr (us k) p) : DRep w fr (.slice A xs.length cap) (.slice xs)

/-- What was there lies as it lay, as far as it may be leant on; no old block has come to be registered. -/
structure DExt (w : World) (fr : Nat → Option Nat) (w' : World) (fr' : Nat → Option Nat) : Prop where
  cell : ∀ b o u, w.cell? ⟨b, o, none⟩ = some u → (∀ f, fr b = some f → o < f) → w'.cell? ⟨b, o, none⟩ = some u
  reg : ∀ b f', b < w.heap.size → fr' b = some f' → ∃ f, fr b = some f ∧ f ≤ f'
  size : w.heap.size ≤ w'.heap.size

theorem DExt.refl (w : World) (fr : Nat → Option Nat) : DExt w fr w fr := ⟨fun _ _ _ h _ => h, fun _ f' _ h => ⟨f', h, Nat.le_refl _⟩, Nat.le_refl _⟩

theorem cell_lt {w : World} {b o : Nat} {u : Value} (h : w.cell? ⟨b, o, none⟩ = some u) : b < w.heap.size := World.block_lt_of_cell? w ⟨b, o, none⟩ h

theorem DExt.trans {w w1 w2 : World} {fr fr1 fr2 : Nat → Option Nat} (h : DExt w fr w1 fr1) (k : DExt w1 fr1 w2 fr2) : DExt w fr w2 fr2 := by
  refine ⟨fun b o u hc hf => k.cell b o u (h.cell b o u hc hf) (fun f1 h1 => ?_), fun b f' hb hf => ?_, Nat.le_trans h.size k.size⟩
  · obtain ⟨f, e, hle⟩ := h.reg b f1 (cell_lt hc) h1
    exact Nat.lt_of_lt_of_le (hf f e) hle
  · obtain ⟨f1, e1, hle1⟩ := k.reg b f' (Nat.lt_of_lt_of_le hb h.size) hf
    obtain ⟨f, e, hle⟩ := h.reg b f1 hb e1
    exact ⟨f, e, Nat.le_trans hle hle1⟩

theorem DRep.mono {w w' : World} {fr fr' : Nat → Option Nat} (hx : DExt w fr w' fr') {v : Value} {p : DV} (h : DRep w fr v p) : DRep w' fr' v p := by
  induction h with
  | int k n => exact .int k n
  | bool b => exact .bool b
  | str s => exact .str s
  | opq v hb h1 => exact .opq v hb h1
  | agg vs cs hl h1 h ih => exact .agg vs cs hl h1 ih
  | slice A cap sz us xs hcap hsz ha h1 h ih =>
    refine .slice A cap sz us xs hcap hsz (fun h0 => ?_) h1 ih
    obtain ⟨ad, e, hs, hf, hc⟩ := ha h0
    refine ⟨ad, e, hs, fun f' hf' k hk => ?_, fun k hk => hx.cell _ _ _ (hc k hk) fun f e => hf f e k hk⟩
    obtain ⟨f, e1, hle⟩ := hx.reg _ f' (cell_lt (hc k hk)) hf'
    exact Nat.lt_of_lt_of_le (hf f e1 k hk) hle

end BoEng
