/- Keys and leases: which may be. -/
import Derived.Test.YtimlalndjfmnbaaDoorFrame
namespace Go.Proofs.YtimlalndjfmnbaaDoor
open BoEng Go
set_option maxRecDepth 100000
attribute [-simp] List.map_take List.map_drop List.length_flatMap
set_option linter.unusedSimpArgs false
set_option linter.unusedVariables false

def keyR (k : List UInt8) : Bool := match k with | [] => false | b :: r => if b = 105 then decide (2 ≤ r.length ∧ r.length ≤ 255) else if b = 104 then decide (2 ≤ r.length ∧ r.length ≤ 17) else false
theorem keyRight (k : List UInt8) (hk : k.length ≤ 9223372036854775807) : Holds Tryd.prog 96 [.d (.str k)] (.d (.bool (keyR k))) (fun _ => false) := by
  refine Holds.by (by kernel_rfl) Tryd.func96 (by kernel_rfl) rfl [] (by simp) (by kernel_rfl) (by kernel_rfl) rfl ?_
  conv in ccs _ => cbv
  match k, hk with
  | [], _ => simp (config := sc) (disch := try exact dd) [std, keyR]
  | b :: r, hk =>
    simp only [List.length_cons] at hk
    have hn : nth (b :: r) 0 = b := rfl
    have hb : (((b.toNat : Nat) : Int) = 105) ↔ b = 105 := by
      constructor
      · intro h
        apply UInt8.toNat.inj
        have : (105 : UInt8).toNat = 105 := rfl
        omega
      · rintro rfl; rfl
    have hb2 : (((b.toNat : Nat) : Int) = 104) ↔ b = 104 := by
      constructor
      · intro h
        apply UInt8.toNat.inj
        have : (104 : UInt8).toNat = 104 := rfl
        omega
      · rintro rfl; rfl
    by_cases h1 : b = 105
    · subst h1
      have hb' := hb.2 rfl
      repeat' (first | (simp (config := sc) (disch := try exact dd) [*, std, keyR, hn]) | (refine sel_by ?_ ?_ <;> intro hc <;> have hc2 := hc <;> (try simp only [decide_eq_true_eq, decide_eq_false_iff_not, Bool.and_eq_true, Bool.or_eq_true, Bool.not_eq_true', Bool.not_eq_false', Bool.or_eq_false_iff, Bool.and_eq_false_iff] at hc2) <;> try omega) | (refine cnd_by ?_ ?_ <;> intro hc <;> have hc2 := hc <;> (try simp only [decide_eq_true_eq, decide_eq_false_iff_not, Bool.and_eq_true, Bool.or_eq_true, Bool.not_eq_true', Bool.not_eq_false', Bool.or_eq_false_iff, Bool.and_eq_false_iff] at hc2) <;> try omega) | (refine onSt_if (by omega) ?_) | (split <;> try omega) | omega)
    · by_cases h2 : b = 104
      · subst h2
        have hb' := hb2.2 rfl
        repeat' (first | (simp (config := sc) (disch := try exact dd) [*, std, keyR, hn]) | (refine sel_by ?_ ?_ <;> intro hc <;> have hc2 := hc <;> (try simp only [decide_eq_true_eq, decide_eq_false_iff_not, Bool.and_eq_true, Bool.or_eq_true, Bool.not_eq_true', Bool.not_eq_false', Bool.or_eq_false_iff, Bool.and_eq_false_iff] at hc2) <;> try omega) | (refine cnd_by ?_ ?_ <;> intro hc <;> have hc2 := hc <;> (try simp only [decide_eq_true_eq, decide_eq_false_iff_not, Bool.and_eq_true, Bool.or_eq_true, Bool.not_eq_true', Bool.not_eq_false', Bool.or_eq_false_iff, Bool.and_eq_false_iff] at hc2) <;> try omega) | (refine onSt_if (by omega) ?_) | (split <;> try omega) | omega)
      · have k1 : ¬ ((b.toNat : Nat) : Int) = 105 := fun h => h1 (hb.1 h)
        have k2 : ¬ ((b.toNat : Nat) : Int) = 104 := fun h => h2 (hb2.1 h)
        repeat' (first | (simp (config := sc) (disch := try exact dd) [*, std, keyR, hn, h1, h2]) | (refine sel_by ?_ ?_ <;> intro hc <;> have hc2 := hc <;> (try simp only [decide_eq_true_eq, decide_eq_false_iff_not, Bool.and_eq_true, Bool.or_eq_true, Bool.not_eq_true', Bool.not_eq_false', Bool.or_eq_false_iff, Bool.and_eq_false_iff] at hc2) <;> try omega) | (refine cnd_by ?_ ?_ <;> intro hc <;> have hc2 := hc <;> (try simp only [decide_eq_true_eq, decide_eq_false_iff_not, Bool.and_eq_true, Bool.or_eq_true, Bool.not_eq_true', Bool.not_eq_false', Bool.or_eq_false_iff, Bool.and_eq_false_iff] at hc2) <;> try omega) | (refine onSt_if (by omega) ?_) | (split <;> try omega) | omega)

structure LeaseR where
  addr : Int
  state : Int
  expiry : Int
  key : List UInt8
  deriving DecidableEq
instance : Inhabited LeaseR := ⟨⟨0, 0, 0, []⟩⟩
def LeaseR.d (l : LeaseR) : DV := .agg [.int .i64 l.addr, .int .i64 l.state, .int .i64 l.expiry, .str l.key]
@[simp] theorem cells_lease (l : LeaseR) : cells l.d = [.int .i64 l.addr, .int .i64 l.state, .int .i64 l.expiry, .str l.key] := rfl
def rightL (l : LeaseR) : Bool := rightA l.addr && decide (1 ≤ l.state ∧ l.state ≤ 3) && decide (0 ≤ l.expiry ∧ l.expiry ≤ 1125899906842624) && keyR l.key
theorem right_rng {l : LeaseR} (h : rightL l = true) : (0 ≤ l.addr ∧ l.addr ≤ 4294967295) ∧ (1 ≤ l.state ∧ l.state ≤ 3) ∧ (0 ≤ l.expiry ∧ l.expiry ≤ 1125899906842624) ∧ keyR l.key = true := by
  simp only [rightL, Bool.and_eq_true, decide_eq_true_eq] at h
  exact ⟨rightA_iff.1 h.1.1.1, h.1.1.2, h.1.2, h.2⟩

end Go.Proofs.YtimlalndjfmnbaaDoor
