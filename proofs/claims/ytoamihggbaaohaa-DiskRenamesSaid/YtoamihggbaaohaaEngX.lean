/- The program's own kinds of data, as plain structures. -/
import Derived.Test.YtoamihggbaaohaaEngW
namespace BoEng
open Go Go.RowKit

def byteD (b : UInt8) : DV := .int .u8 b.toNat
@[simp] theorem cells_byteD (b : UInt8) : cells (byteD b) = [.int .u8 b.toNat] := rfl
@[simp] theorem byteD_eq (b : UInt8) : byteD b = .int .u8 b.toNat := rfl
def intD (n : Int) : DV := .int .i64 n
@[simp] theorem intD_eq (n : Int) : intD n = .int .i64 n := rfl
def bytesD (l : List UInt8) : DV := .slice (l.map byteD)
@[simp] theorem bytesD_eq (l : List UInt8) : bytesD l = .slice (l.map byteD) := rfl

structure Opt where
  code : Int
  data : List UInt8
  deriving Inhabited, DecidableEq
def Opt.d (o : Opt) : DV := .agg [.int .i64 o.code, .slice (o.data.map byteD)]
@[simp] theorem Opt.d_eq (o : Opt) : o.d = .agg [.int .i64 o.code, .slice (o.data.map byteD)] := rfl

structure Msg where
  op : Int
  htype : Int
  hlen : Int
  hops : Int
  xid : Int
  secs : Int
  flags : Int
  ci : Int
  yi : Int
  si : Int
  gi : Int
  chaddr : List UInt8
  opts : List Opt
  deriving Inhabited, DecidableEq
def Msg.d (m : Msg) : DV := .agg [.int .i64 m.op, .int .i64 m.htype, .int .i64 m.hlen, .int .i64 m.hops, .int .i64 m.xid, .int .i64 m.secs, .int .i64 m.flags, .int .i64 m.ci, .int .i64 m.yi, .int .i64 m.si, .int .i64 m.gi,
  .slice (m.chaddr.map byteD), .slice (m.opts.map Opt.d)]
@[simp] theorem Msg.d_eq (m : Msg) : m.d = .agg [.int .i64 m.op, .int .i64 m.htype, .int .i64 m.hlen, .int .i64 m.hops, .int .i64 m.xid, .int .i64 m.secs, .int .i64 m.flags, .int .i64 m.ci, .int .i64 m.yi, .int .i64 m.si, .int .i64 m.gi,
  .slice (m.chaddr.map byteD), .slice (m.opts.map Opt.d)] := rfl

/-- In the range of a whole number. -/
def inI (n : Int) : Prop := -9223372036854775808 ≤ n ∧ n ≤ 9223372036854775807
theorem inI_of {n : Int} (h : (Lit.int .i64 n).wf = true) : inI n := by
  have : IntKind.min .i64 = -9223372036854775808 ∧ IntKind.max .i64 = 9223372036854775807 := ⟨rfl, rfl⟩
  simp [Lit.wf] at h
  unfold inI
  omega

section
variable {P : Program}
theorem typC_int {n t : Nat} {ds : List DV} (hu : P.underlying t = some (.int .i64)) (h : typC P n t ds) : ∃ i, ds = [.int .i64 i] ∧ inI i := by
  cases n with
  | zero => exact h.elim
  | succ n =>
    unfold typC at h
    rw [hu] at h
    obtain ⟨i, rfl, hw⟩ := h
    exact ⟨i, rfl, inI_of hw⟩
theorem typC_u8 {n t : Nat} {ds : List DV} (hu : P.underlying t = some (.int .u8)) (h : typC P n t ds) : ∃ b : UInt8, ds = [byteD b] := by
  cases n with
  | zero => exact h.elim
  | succ n =>
    unfold typC at h
    rw [hu] at h
    obtain ⟨i, rfl, hw⟩ := h
    have : IntKind.min .u8 = 0 ∧ IntKind.max .u8 = 255 := ⟨rfl, rfl⟩
    simp [Lit.wf] at hw
    refine ⟨UInt8.ofNat i.toNat, ?_⟩
    simp
    omega
theorem typC_bool {n t : Nat} {ds : List DV} (hu : P.underlying t = some .bool) (h : typC P n t ds) : ∃ b, ds = [.bool b] := by
  cases n with
  | zero => exact h.elim
  | succ n =>
    unfold typC at h
    rw [hu] at h
    exact h
theorem typC_str {n t : Nat} {ds : List DV} (hu : P.underlying t = some .string) (h : typC P n t ds) : ∃ s : List UInt8, ds = [.str s] ∧ s.length ≤ maxLen := by
  cases n with
  | zero => exact h.elim
  | succ n =>
    unfold typC at h
    rw [hu] at h
    exact h
/-- A slice of what is of a kind. -/
theorem typC_slice {α : Type} {n t e : Nat} {ds : List DV} {f : α → DV} {Q : α → Prop} (hu : P.underlying t = some (.slice e)) (hf : ∀ n ds, typC P n e ds → ∃ a, mkD P e ds = f a ∧ Q a) (h : typC P n t ds) :
    ∃ l : List α, ds = [.slice (l.map f)] ∧ l.length ≤ maxLen ∧ ∀ a ∈ l, Q a := by
  cases n with
  | zero => exact h.elim
  | succ n =>
    unfold typC at h
    rw [hu] at h
    obtain ⟨xs, rfl, hl, hx⟩ := h
    have : ∃ l : List α, xs = l.map f ∧ ∀ a ∈ l, Q a := by
      clear hl
      induction xs with
      | nil => exact ⟨[], rfl, by simp⟩
      | cons x xs ih =>
        obtain ⟨l, rfl, hq⟩ := ih fun y hy => hx y (List.mem_cons_of_mem _ hy)
        obtain ⟨ds, hd, rfl⟩ := hx x List.mem_cons_self
        obtain ⟨a, ha, hqa⟩ := hf n ds hd
        refine ⟨a :: l, by rw [ha]; rfl, fun b hb => ?_⟩
        rcases List.mem_cons.1 hb with rfl | hb
        · exact hqa
        · exact hq b hb
    obtain ⟨l, rfl, hq⟩ := this
    exact ⟨l, rfl, by simpa using hl, hq⟩
theorem typC_bytes {n t e : Nat} {ds : List DV} (hu : P.underlying t = some (.slice e)) (he : P.underlying e = some (.int .u8)) (h : typC P n t ds) : ∃ l : List UInt8, ds = [.slice (l.map byteD)] ∧ l.length ≤ maxLen := by
  obtain ⟨l, h1, h2, _⟩ := typC_slice (f := byteD) (Q := fun _ => True) hu (fun n ds h => by
    obtain ⟨b, rfl⟩ := typC_u8 he h
    exact ⟨b, by simp [mkD, he], trivial⟩) h
  exact ⟨l, h1, h2⟩
theorem typC_ints {n t e : Nat} {ds : List DV} (hu : P.underlying t = some (.slice e)) (he : P.underlying e = some (.int .i64)) (h : typC P n t ds) : ∃ l : List Int, ds = [.slice (l.map intD)] ∧ l.length ≤ maxLen ∧ ∀ i ∈ l, inI i := by
  obtain ⟨l, h1, h2, h3⟩ := typC_slice (f := intD) (Q := inI) hu (fun n ds h => by
    obtain ⟨b, rfl, hb⟩ := typC_int he h
    exact ⟨b, by simp [mkD, he], hb⟩) h
  exact ⟨l, h1, h2, h3⟩
end
end BoEng
