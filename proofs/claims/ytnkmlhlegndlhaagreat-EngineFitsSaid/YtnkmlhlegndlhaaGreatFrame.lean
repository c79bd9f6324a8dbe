/- Frames: numbers as bytes, bytes with their length and sum ahead; what the program and the document answer. -/
import Derived.Test.YtnkmlhlegndlhaaGreatSum
namespace Go.Proofs.YtnkmlhlegndlhaaGreat
open BoEng Go
set_option maxRecDepth 100000
attribute [-simp] List.map_take List.map_drop List.length_flatMap
set_option linter.unusedSimpArgs false
set_option linter.unusedVariables false
def putB (v : Nat) : Nat → List UInt8
 | 0 => []
 | n + 1 => putB (v / 256) n ++ [UInt8.ofNat (v % 256)]
def lowB (v : Int) : UInt8 := UInt8.ofNat (v % 256).toNat
theorem lowB_nat (v : Int) : ((lowB v).toNat : Int) = v % 256 := by
 have h2 : ((v % 256).toNat) < 256 := by omega
 simp only [lowB, UInt8.toNat_ofNat']
 omega
theorem u8_wrapB (v : Int) : IntKind.u8.wrap v = ((lowB v).toNat : Int) := by
 rw [lowB_nat]
 unfold IntKind.wrap
 simp [IntKind.bits, IntKind.signed]
def putI (v : Int) : Nat → List UInt8
 | 0 => []
 | n + 1 => putI (v / 256) n ++ [lowB v]
@[simp] theorem putI_len : ∀ (n : Nat) (v : Int), (putI v n).length = n
 | 0, _ => rfl
 | n + 1, v => by simp [putI, putI_len n]
theorem div_div (v : Int) (n : Nat) : v / 256 / 256 ^ n = v / 256 ^ (n + 1) := by
 have hp : (0 : Int) < 256 ^ n := Int.pow_pos (by decide)
 rw [Int.ediv_ediv, if_neg (by omega), Int.pow_succ, Int.mul_comm]
 simp
theorem putI_head : ∀ (n : Nat) (v : Int), putI v (n + 1) = lowB (v / 256 ^ n) :: putI v n
 | 0, v => by simp [putI]
 | n + 1, v => by
   rw [putI, putI_head n (v / 256), putI, List.cons_append, div_div]
theorem putI_val : ∀ (n : Nat) (v : Int), 0 ≤ v → v < 256 ^ n → valB (putI v n) = v
 | 0, v, h0, h1 => by
   have : v = 0 := by simp at h1; omega
   subst this
   rfl
 | n + 1, v, h0, h1 => by
   rw [putI, valB_snoc, putI_val n (v / 256) (by omega) (by rw [Int.pow_succ] at h1; omega), lowB_nat]
   omega
theorem pow256 (n : Nat) : (256 : Int) ^ n = 2 ^ (8 * n) := by
 rw [Int.pow_mul]
 rfl
theorem shr_div {v : Int} {k : Nat} (hk : k ≤ 64) : shrI .i64 v (k : Int) = v / 2 ^ k := by
 unfold shrI
 have : min ((k : Int).toNat) IntKind.i64.bits = k := by
  have : IntKind.i64.bits = 64 := rfl
  omega
 rw [this, Int.fdiv_eq_ediv_of_nonneg]
 exact Int.le_of_lt (Int.pow_pos (by decide))
def putOk (v n : Int) : Bool := decide ((1 ≤ n ∧ n ≤ 7) ∧ 0 ≤ v ∧ v < 256 ^ n.toNat)
def putJ (v : Int) (n i : Nat) : List PV := List.replicate (n - i) (.d (.int .u8 0)) ++ ((putI v i).map byteD).map .d
theorem putJ_step (v : Int) {n i : Nat} (h : i < n) : (putJ v n i).take (n - 1 - i) ++ PV.d (.int .u8 ((lowB (v / 256 ^ i)).toNat : Nat)) :: (putJ v n i).drop (n - 1 - i + 1) = putJ v n (i + 1) := by
 unfold putJ
 have e : n - i = (n - 1 - i) + 1 := by omega
 have e2 : n - (i + 1) = n - 1 - i := by omega
 rw [e, e2, List.take_append_of_le_length (by simp), List.drop_append_of_le_length (by simp), putI_head]
 simp
theorem putJ_len (v : Int) {n i : Nat} (h : i ≤ n) : (putJ v n i).length = n := by simp [putJ]; omega
def cpJ (v : Int) (n : Nat) (fo g : Nat) (i : Nat) (S : PS) : Prop :=
 i ≤ n ∧ S.t 0 = .d (.int .i64 v) ∧ S.t 1 = .d (.int .i64 n) ∧ S.t 27 = .d (.int .i64 n) ∧ S.t 28 = .d (.int .i64 i) ∧ S.t 6 = .bsl (fo + 26) g n 1 false ∧ S.fo = fo ∧ S.gen (fo + 26) = g ∧ S.box (fo + 26) = putJ v n i
theorem codePut (v n : Int) :
  Holds Tryz.prog 68 [.d (.int .i64 v), .d (.int .i64 n)] (.tup [.d (.slice ((if putOk v n then putI v n.toNat else []).map byteD)), .d (.int .i64 (if putOk v n then 0 else 1))]) (fun j => j == 0) := by
 refine Holds.by (by kernel_rfl) Tryz.func68 (by kernel_rfl) rfl [] (by simp) (by kernel_rfl) (by kernel_rfl) rfl ?_
 conv in ccs _ => cbv
 by_cases h1 : n < 1 ∨ 7 < n ∨ v < 0
 ·have hE : putOk v n = false := by simp only [putOk, decide_eq_false_iff_not]; omega
  rw [hE]
  repeat' (first | (simp (config := sc) (disch := try exact dd) [*, std]) | (refine sel_by ?_ ?_ <;> intro hc <;> have hc2 := hc <;> (try simp only [decide_eq_true_eq, decide_eq_false_iff_not, Bool.and_eq_true, Bool.or_eq_true, Bool.not_eq_true', Bool.not_eq_false', Bool.or_eq_false_iff, Bool.and_eq_false_iff] at hc2) <;> try omega) | (refine cnd_by ?_ ?_ <;> intro hc <;> have hc2 := hc <;> (try simp only [decide_eq_true_eq, decide_eq_false_iff_not, Bool.and_eq_true, Bool.or_eq_true, Bool.not_eq_true', Bool.not_eq_false', Bool.or_eq_false_iff, Bool.and_eq_false_iff] at hc2) <;> try omega) | (refine onSt_if (by omega) ?_) | (split <;> try omega) | omega)
 ·obtain ⟨n, rfl⟩ := Int.eq_ofNat_of_zero_le (show 0 ≤ n by omega)
  have k1 : ¬ (n : Int) < 1 := by omega
  have k2 : ¬ (7 : Int) < n := by omega
  have k3 : ¬ v < 0 := by omega
  have hs : shrI .i64 v (8 * (n : Int)) = v / 256 ^ n := by
   have := shr_div (v := v) (k := 8 * n) (by omega)
   rw [pow256]
   simpa using this
  have hp : (0 : Int) < 256 ^ n := Int.pow_pos (by decide)
  by_cases h2 : v < 256 ^ n
  ·have hE : putOk v n = true := by simp only [putOk, decide_eq_true_eq, Int.toNat_natCast]; omega
   have hd : v / 256 ^ n = 0 := Int.ediv_eq_zero_of_lt (by omega) h2
   rw [hE]
   rw [hd] at hs
   simp (config := sc) (disch := try exact dd) [std, k1, k2, k3, hs]
   rw [o_mk (n := n) (z := .int .u8 0) (by simp) (by simp; omega)]
   simp (config := sc) (disch := try exact dd) [std, k1, k2, k3, hs]
   refine lp (cpJ v n FO 1) (fun i => n - i) 0 ⟨by omega, by simp (config := sc) (disch := try exact dd) [std, putJ, putI]⟩ ?_
   rintro i S ⟨hi, e0, e1, e27, e28, e6, efo, eg, eb⟩
   by_cases hlt : i < n
   ·have k6 : (i : Int) < n := by omega
    have hsi : shrI .i64 v (8 * (i : Int)) = v / 256 ^ i := by
     have := shr_div (v := v) (k := 8 * i) (by omega)
     rw [pow256]
     simpa using this
    have hj : (((n : Int) - 1 - i).toNat) = n - 1 - i := by omega
    have hl := putJ_len v (Nat.le_of_lt hlt)
    have hlb : (S.box (FO + 26)).length = n := by rw [eb]; exact hl
    have hst := putJ_step v hlt
    simp (config := sc) (disch := try exact dd) [std, e0, e1, e27, e28, e6, efo, eg, eb, k6, hsi, hl, hj, u8_wrapB]
    exact nxt_of (i + 1) ⟨by omega, by simp (config := sc) (disch := try exact dd) [*, std, hst]⟩ (by omega)
   ·have : i = n := by omega
    subst this
    have hc : putJ v i i = ((putI v i).map byteD).map .d := by simp [putJ]
    have hi0 : 0 < i := by omega
    simp (config := sc) (disch := try exact dd) [std, e0, e1, e27, e28, e6, efo, eg, eb, hc, hi0, List.take_of_length_le]
  ·have hE : putOk v n = false := by simp only [putOk, decide_eq_false_iff_not, Int.toNat_natCast]; omega
   have hd : ¬ v / 256 ^ n = 0 := by
    intro h
    have h3 := Int.emod_add_mul_ediv v (256 ^ n)
    have h4 := Int.emod_lt_of_pos v hp
    rw [h] at h3
    simp at h3
    omega
   rw [hE]
   simp (config := sc) (disch := try exact dd) [std, k1, k2, k3, hs, hd]
end Go.Proofs.YtnkmlhlegndlhaaGreat
