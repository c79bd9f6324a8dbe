/- Numbers in bytes: what the program's code and the document's layer 2 both answer. -/
import Derived.Test.YtimlalndjfmnbaaDoorAddr
namespace Go.Proofs.YtimlalndjfmnbaaDoor
open BoEng Go
set_option maxRecDepth 100000
attribute [-simp] List.map_take List.map_drop List.length_flatMap
set_option linter.unusedSimpArgs false
set_option linter.unusedVariables false

/-- The number in bytes. -/
def valB (l : List UInt8) : Int := l.foldl (fun v b => v * 256 + (b.toNat : Int)) 0
theorem valB_nil : valB [] = 0 := rfl
theorem valB_snoc (l : List UInt8) (b : UInt8) : valB (l ++ [b]) = valB l * 256 + (b.toNat : Int) := by simp [valB]
theorem valB_take (l : List UInt8) {i : Nat} (h : i < l.length) : valB (l.take (i + 1)) = valB (l.take i) * 256 + (l[i].toNat : Int) := by
  rw [List.take_succ_eq_append_getElem h, valB_snoc]
theorem valB_rng : ∀ (n : Nat) (l : List UInt8), l.length = n → 0 ≤ valB l ∧ valB l < 256 ^ n
  | 0, l, h => by
    obtain rfl : l = [] := List.eq_nil_of_length_eq_zero h
    simp [valB]
  | n + 1, l, h => by
    have hl : n < l.length := by omega
    have e := valB_take l hl
    rw [List.take_of_length_le (by omega)] at e
    obtain ⟨h1, h2⟩ := valB_rng n (l.take n) (by simp; omega)
    have h3 : (l[n].toNat : Int) < 256 := by
      have := l[n].toNat_lt
      omega
    rw [e, Int.pow_succ]
    omega
theorem pow256_le {n : Nat} (h : n ≤ 7) : (256 : Int) ^ n ≤ 72057594037927936 := by
  have : ∀ n : Fin 8, (256 : Int) ^ (n : Nat) ≤ 72057594037927936 := by decide
  exact this ⟨n, by omega⟩
theorem valB_le {l : List UInt8} (h : l.length ≤ 7) : 0 ≤ valB l ∧ valB l < 72057594037927936 := by
  have := valB_rng l.length l rfl
  have := pow256_le h
  omega
theorem or_byte {v b : Int} (h0 : 0 ≤ v) (h1 : v < 281474976710656) (h2 : 0 ≤ b) (h3 : b < 256) : orI .i64 (shlI .i64 v 8) b = v * 256 + b := by
  have e1 : shlI .i64 v 8 = v * 256 := by
    unfold shlI
    have : (2 : Int) ^ (min ((8 : Int).toNat) IntKind.i64.bits) = 256 := by decide
    rw [this, wrap_in (by omega)]
  rw [e1]
  unfold orI
  have hb : ∀ x : Int, 0 ≤ x → x < 9223372036854775808 → (BitVec.ofInt IntKind.i64.bits x).toNat = x.toNat := by
    intro x k0 k1
    have : IntKind.i64.bits = 64 := rfl
    rw [this, BitVec.toNat_ofInt]
    omega
  rw [BitVec.toNat_or, hb _ (by omega) (by omega), hb _ h2 (by omega), or_low (n := 8) (by omega) (by omega), wrap_nat (by omega)]
  omega
theorem u8_lt (b : UInt8) : ((b.toNat : Nat) : Int) < 256 := by have := b.toNat_lt; omega
theorem u8_wrap (b : UInt8) : IntKind.i64.wrap ((b.toNat : Nat) : Int) = b.toNat := by have := b.toNat_lt; exact wrap_in (by omega)

def getE (b : List UInt8) (at_ n : Int) : Int := if n < 1 ∨ 7 < n ∨ at_ < 0 then 1 else if at_ > b.length ∨ b.length - at_ < n then 4 else 0
def getV (b : List UInt8) (at_ n : Int) : Int := if getE b at_ n = 0 then valB ((b.drop at_.toNat).take n.toNat) else 0

def cgI (b : List UInt8) (a n : Nat) (i : Nat) (S : PS) : Prop :=
  i ≤ n ∧ S.t 0 = .d (.slice (b.map byteD)) ∧ S.t 1 = .d (.int .i64 a) ∧ S.t 32 = .d (.int .i64 n) ∧ S.t 33 = .d (.int .i64 i) ∧ S.t 8 = .d (.int .i64 (valB ((b.drop a).take i)))
theorem codeGet (b : List UInt8) (a n : Int) (hl : b.length ≤ 9223372036854775807) :
    Holds Tryd.prog 39 [.d (.slice (b.map byteD)), .d (.int .i64 a), .d (.int .i64 n)] (.tup [.d (.int .i64 (getV b a n)), .d (.int .i64 (getE b a n))]) (fun _ => false) := by
  refine Holds.by (by kernel_rfl) Tryd.func39 (by kernel_rfl) rfl [] (by simp) (by kernel_rfl) (by kernel_rfl) rfl ?_
  conv in ccs _ => cbv
  by_cases h1 : n < 1 ∨ 7 < n ∨ a < 0
  · have hE : getE b a n = 1 := by simp only [getE, if_pos h1]
    have hV : getV b a n = 0 := by simp [getV, hE]
    rw [hE, hV]
    repeat' (first | (simp (config := sc) (disch := try exact dd) [*, std]) | (refine sel_by ?_ ?_ <;> intro hc <;> have hc2 := hc <;> (try simp only [decide_eq_true_eq, decide_eq_false_iff_not, Bool.and_eq_true, Bool.or_eq_true, Bool.not_eq_true', Bool.not_eq_false', Bool.or_eq_false_iff, Bool.and_eq_false_iff] at hc2) <;> try omega) | (refine cnd_by ?_ ?_ <;> intro hc <;> have hc2 := hc <;> (try simp only [decide_eq_true_eq, decide_eq_false_iff_not, Bool.and_eq_true, Bool.or_eq_true, Bool.not_eq_true', Bool.not_eq_false', Bool.or_eq_false_iff, Bool.and_eq_false_iff] at hc2) <;> try omega) | (refine onSt_if (by omega) ?_) | (split <;> try omega) | omega)
  · by_cases h2 : a > b.length ∨ b.length - a < n
    · have hE : getE b a n = 4 := by simp only [getE, if_neg h1, if_pos h2]
      have hV : getV b a n = 0 := by simp [getV, hE]
      rw [hE, hV]
      repeat' (first | (simp (config := sc) (disch := try exact dd) [*, std]) | (refine sel_by ?_ ?_ <;> intro hc <;> have hc2 := hc <;> (try simp only [decide_eq_true_eq, decide_eq_false_iff_not, Bool.and_eq_true, Bool.or_eq_true, Bool.not_eq_true', Bool.not_eq_false', Bool.or_eq_false_iff, Bool.and_eq_false_iff] at hc2) <;> try omega) | (refine cnd_by ?_ ?_ <;> intro hc <;> have hc2 := hc <;> (try simp only [decide_eq_true_eq, decide_eq_false_iff_not, Bool.and_eq_true, Bool.or_eq_true, Bool.not_eq_true', Bool.not_eq_false', Bool.or_eq_false_iff, Bool.and_eq_false_iff] at hc2) <;> try omega) | (refine onSt_if (by omega) ?_) | (split <;> try omega) | omega)
    · have hE : getE b a n = 0 := by simp only [getE, if_neg h1, if_neg h2]
      have hV : getV b a n = valB ((b.drop a.toNat).take n.toNat) := by simp [getV, hE]
      rw [hE, hV]
      obtain ⟨a, rfl⟩ := Int.eq_ofNat_of_zero_le (show 0 ≤ a by omega)
      obtain ⟨n, rfl⟩ := Int.eq_ofNat_of_zero_le (show 0 ≤ n by omega)
      have k1 : ¬ (n : Int) < 1 := by omega
      have k2 : ¬ (7 : Int) < n := by omega
      have k3 : ¬ (a : Int) < 0 := by omega
      have k4 : ¬ (b.length : Int) < a := by omega
      have k5 : ¬ (b.length : Int) - a < n := by omega
      simp (config := sc) (disch := try exact dd) [std, k1, k2, k3, k4, k5]
      refine lp (cgI b a n) (fun i => n - i) 0 ⟨by omega, by simp [valB]⟩ ?_
      rintro i S ⟨hi, e0, e1, e32, e33, e8⟩
      by_cases hlt : i < n
      · have k6 : (i : Int) < n := by omega
        have hdl : i < (b.drop a).length := by simp; omega
        have hv := valB_take (b.drop a) hdl
        have hr := valB_le (l := (b.drop a).take i) (by simp; omega)
        have hr2 := valB_rng i ((b.drop a).take i) (by simp; omega)
        have hp6 : (256 : Int) ^ i ≤ 281474976710656 := by
          have : ∀ n : Fin 7, (256 : Int) ^ (n : Nat) ≤ 281474976710656 := by decide
          exact this ⟨i, by omega⟩
        have hg : (b.drop a)[i] = b[a + i]'(by omega) := by simp
        have hn : nth b ((a : Int) + i) = b[a + i]'(by omega) := by
          have := nth_nat (l := b) (i := a + i) (by omega)
          rw [← this]
          simp
        have ho := or_byte (v := valB ((b.drop a).take i)) (b := (b[a + i]'(by omega)).toNat) hr.1 (by omega) (by omega) (u8_lt _)
        have hw := u8_wrap (b[a + i]'(by omega))
        rw [hg] at hv
        simp (config := sc) (disch := try exact dd) [std, e0, e1, e32, e33, e8, k6, hn, hw, ho]
        exact nxt_of (i + 1) ⟨by omega, by simp (config := sc) (disch := try exact dd) [*, std, hv, hw, ho]⟩ (by omega)
      · have : i = n := by omega
        subst this
        simp (config := sc) (disch := try exact dd) [std, e0, e1, e32, e33, e8]

def vlI (b : List UInt8) (i : Nat) (S : PS) : Prop :=
  i ≤ b.length ∧ S.t 0 = .d (.slice (b.map byteD)) ∧ S.t 4 = .d (.int .i64 i) ∧ S.t 3 = .d (.int .i64 (valB (b.take i)))
theorem ref02Value (b : List UInt8) (hl : b.length ≤ 7) : Holds Tryd.prog 43 [.d (.slice (b.map byteD))] (.d (.int .i64 (valB b))) (fun _ => false) := by
  refine Holds.by (by kernel_rfl) Tryd.func43 (by kernel_rfl) rfl [] (by simp) (by kernel_rfl) (by kernel_rfl) rfl ?_
  conv in ccs _ => cbv
  simp (config := sc) (disch := try exact dd) [std]
  refine lp (vlI b) (fun i => b.length - i) 0 ⟨by omega, by simp [valB]⟩ ?_
  rintro i S ⟨hi, e0, e4, e3⟩
  by_cases hlt : i < b.length
  · have k6 : (i : Int) < b.length := by omega
    have hv := valB_take b hlt
    have hr := valB_le (l := b.take i) (by simp; omega)
    have hr2 := valB_rng i (b.take i) (by simp; omega)
    have hp6 : (256 : Int) ^ i ≤ 281474976710656 := by
      have : ∀ n : Fin 7, (256 : Int) ^ (n : Nat) ≤ 281474976710656 := by decide
      exact this ⟨i, by omega⟩
    have hw := u8_wrap b[i]
    have hu := u8_lt b[i]
    simp (config := sc) (disch := try exact dd) [std, e0, e3, e4, k6, hw]
    exact nxt_of (i + 1) ⟨by omega, by simp (config := sc) (disch := try exact dd) [*, std, hv, hw]⟩ (by omega)
  · have k6 : ¬ (i : Int) < b.length := by omega
    have : b.take i = b := List.take_of_length_le (by omega)
    simp (config := sc) (disch := try exact dd) [std, e0, e3, e4, k6, this]

end Go.Proofs.YtimlalndjfmnbaaDoor
