/- Addresses and prefixes: what the program's addr and the document's layer 1 both answer. -/
import Derived.Test.YtimlalndjfmnbaaDoorTy
namespace Go.Proofs.YtimlalndjfmnbaaDoor
open BoEng Go
set_option maxRecDepth 100000
attribute [-simp] List.map_take List.map_drop List.length_flatMap
set_option linter.unusedSimpArgs false
set_option linter.unusedVariables false

def rightA (a : Int) : Bool := decide (0 ≤ a ∧ a ≤ 4294967295)
/-- How many addresses a prefix has. -/
def sizeA (bits : Int) : Int := 2 ^ (32 - bits).toNat
def fairA (base bits : Int) : Bool := decide (0 ≤ bits ∧ bits ≤ 32) && rightA base && decide (base % sizeA bits = 0)
def hasA (base bits a : Int) : Bool := fairA base bits && rightA a && decide (base ≤ a ∧ a < base + sizeA bits)
def lastA (base bits : Int) : Int := base + sizeA bits - 1
def meetA (b k c l : Int) : Bool := fairA b k && fairA c l && decide (b ≤ lastA c l ∧ c ≤ lastA b k)

theorem rightA_iff {a : Int} : rightA a = true ↔ 0 ≤ a ∧ a ≤ 4294967295 := by simp [rightA]
theorem rightA_not {a : Int} : rightA a = false ↔ ¬ (0 ≤ a ∧ a ≤ 4294967295) := by simp [rightA]
theorem sizeA_pos (bits : Int) : 0 < sizeA bits := Int.pow_pos (by decide)
theorem sizeA_le {bits : Int} (h : 0 ≤ bits) : sizeA bits ≤ 4294967296 := by
  unfold sizeA
  have h1 : (32 - bits).toNat ≤ 32 := by omega
  have h2 : (2 : Nat) ^ (32 - bits).toNat ≤ 2 ^ 32 := Nat.pow_le_pow_right (by decide) h1
  have h3 : ((2 : Nat) ^ (32 - bits).toNat : Int) ≤ ((2 ^ 32 : Nat) : Int) := by exact_mod_cast h2
  simpa using h3
theorem fairA_iff {base bits : Int} : fairA base bits = true ↔ (0 ≤ bits ∧ bits ≤ 32) ∧ (0 ≤ base ∧ base ≤ 4294967295) ∧ base % sizeA bits = 0 := by
  simp [fairA, rightA, and_assoc]
theorem hasA_iff {base bits a : Int} : hasA base bits a = true ↔ fairA base bits = true ∧ (0 ≤ a ∧ a ≤ 4294967295) ∧ base ≤ a ∧ a < base + sizeA bits := by
  simp [hasA, rightA, and_assoc]

/-! the bits of masks -/
theorem mask_at : ∀ n : Fin 33, andNotI .i64 4294967295 (IntKind.i64.wrap (IntKind.i64.wrap (1 * 2 ^ (min ((n : Nat)) IntKind.i64.bits)) - 1)) = 4294967296 - 2 ^ (n : Nat) := by decide
theorem low_at : ∀ n : Fin 33, (4294967295 &&& (18446744073709551615 - (4294967296 - 2 ^ (n : Nat)))) = 2 ^ (n : Nat) - 1 := by decide
theorem high_at : ∀ n : Fin 33, (4294967296 - 2 ^ (n : Nat)) = 4294967295 &&& (4294967296 - 2 ^ (n : Nat)) := by decide
theorem wrap_nat {n : Nat} (h : n < 9223372036854775808) : IntKind.i64.wrap (n : Int) = n := wrap_in (by omega)

theorem bv_toNat {a : Int} (h : 0 ≤ a) (h1 : a ≤ 4294967295) : (BitVec.ofInt IntKind.i64.bits a).toNat = a.toNat := by
  have : IntKind.i64.bits = 64 := rfl
  rw [this]
  rw [BitVec.toNat_ofInt]
  omega
theorem and_low {x n : Nat} (hx : x ≤ 4294967295) (hn : n ≤ 32) : x &&& (18446744073709551615 - (4294967296 - 2 ^ n)) = x % 2 ^ n := by
  have h1 : x = x &&& 4294967295 := by
    have := Nat.and_two_pow_sub_one_eq_mod x 32
    simp only [Nat.reducePow, Nat.reduceSub] at this
    rw [this]
    omega
  have h2 := low_at ⟨n, by omega⟩
  simp only at h2
  rw [h1, Nat.and_assoc, h2, ← h1, Nat.and_two_pow_sub_one_eq_mod]
/-- What is in the mask and what is not make the whole. -/
theorem and_parts {x m n : Nat} (hx : x ≤ 4294967295) (hn : n ≤ 32) : (x &&& (4294967296 - 2 ^ n)) = x - x % 2 ^ n := by
  have hp : 2 ^ n ≤ 4294967296 := by
    have := Nat.pow_le_pow_right (show 0 < 2 by decide) hn
    simpa using this
  have h0 : 0 < 2 ^ n := Nat.pow_pos (by decide)
  have e1 : x = 2 ^ n * (x / 2 ^ n) + x % 2 ^ n := (Nat.div_add_mod x (2 ^ n)).symm
  have e2 : 4294967296 - 2 ^ n = 2 ^ n * (2 ^ (32 - n) - 1) := by
    rw [Nat.mul_sub, ← Nat.pow_add, show n + (32 - n) = 32 by omega]
    simp
  apply Nat.eq_of_testBit_eq
  intro i
  have e3 : x - x % 2 ^ n = 2 ^ n * (x / 2 ^ n) := by omega
  rw [e3, e2, Nat.testBit_and, Nat.testBit_two_pow_mul, Nat.testBit_two_pow_mul, Nat.testBit_two_pow_sub_one, Nat.testBit_div_two_pow]
  by_cases hi : n ≤ i
  · have hi' : i - n + n = i := by omega
    simp only [hi, decide_true, Bool.true_and, hi', ge_iff_le]
    by_cases hb : i - n < 32 - n
    · simp [hb]
    · simp only [hb, decide_false, Bool.and_false]
      symm
      exact Nat.testBit_lt_two_pow (Nat.lt_of_lt_of_le (show x < 2 ^ 32 by simpa using (by omega : x < 4294967296)) (Nat.pow_le_pow_right (by decide) (by omega)))
  · simp [hi]

theorem sizeA_nat (bits : Int) : sizeA bits = ((2 ^ (32 - bits).toNat : Nat) : Int) := by simp [sizeA]
theorem sizeN_le {bits : Int} (h : 0 ≤ bits) : 2 ^ (32 - bits).toNat ≤ 4294967296 := by
  have := Nat.pow_le_pow_right (show 0 < 2 by decide) (show (32 - bits).toNat ≤ 32 by omega)
  simpa using this
theorem mask_nat {bits : Int} (h0 : 0 ≤ bits) (h1 : bits ≤ 32) : andNotI .i64 4294967295 (IntKind.i64.wrap (shlI .i64 1 (32 - bits) - 1)) = 4294967296 - sizeA bits := by
  unfold shlI
  have := mask_at ⟨(32 - bits).toNat, by omega⟩
  simp only at this
  rw [this]
  rfl
theorem andNot_mask {a bits : Int} (ha : 0 ≤ a ∧ a ≤ 4294967295) (h0 : 0 ≤ bits) (h1 : bits ≤ 32) :
    andNotI .i64 a (4294967296 - sizeA bits) = a % sizeA bits := by
  unfold andNotI
  have hs := sizeA_le h0
  have hp := sizeA_pos bits
  have hn := sizeN_le h0
  have e0 : (~~~ BitVec.ofInt IntKind.i64.bits (4294967296 - sizeA bits)).toNat = 18446744073709551615 - (4294967296 - 2 ^ (32 - bits).toNat) := by
    rw [BitVec.toNat_not, bv_toNat (by omega) (by omega)]
    have : (4294967296 - sizeA bits).toNat = 4294967296 - 2 ^ (32 - bits).toNat := by rw [sizeA_nat]; omega
    rw [this]
    rfl
  rw [BitVec.toNat_and, e0, bv_toNat ha.1 ha.2, and_low (by omega) (by omega), wrap_nat, sizeA_nat]
  · have : a = ((a.toNat : Nat) : Int) := by omega
    rw [this]
    simp
  · have := Nat.mod_lt a.toNat (Nat.pow_pos (n := (32 - bits).toNat) (show 0 < 2 by decide))
    omega
theorem and_mask {a bits : Int} (ha : 0 ≤ a ∧ a ≤ 4294967295) (h0 : 0 ≤ bits) (h1 : bits ≤ 32) :
    andI .i64 a (4294967296 - sizeA bits) = a - a % sizeA bits := by
  unfold andI
  have hs := sizeA_le h0
  have hp := sizeA_pos bits
  have hn := sizeN_le h0
  have e0 : (BitVec.ofInt IntKind.i64.bits (4294967296 - sizeA bits)).toNat = (4294967296 - 2 ^ (32 - bits).toNat) := by
    rw [bv_toNat (by omega) (by omega), sizeA_nat]; omega
  have hm : (a.toNat % 2 ^ (32 - bits).toNat : Nat) ≤ a.toNat := Nat.mod_le _ _
  rw [BitVec.toNat_and, e0, bv_toNat ha.1 ha.2, and_parts (m := 0) (by omega) (by omega), wrap_nat (by omega), sizeA_nat]
  have : a = ((a.toNat : Nat) : Int) := by omega
  rw [this]
  simp only [Int.toNat_natCast]
  rw [Int.ofNat_sub (by simpa using hm)]
  simp
theorem or_low {b x n : Nat} (hb : b % 2 ^ n = 0) (hx : x < 2 ^ n) : b ||| x = b + x := by
  have h0 : 0 < 2 ^ n := Nat.pow_pos (by decide)
  have e : b = 2 ^ n * (b / 2 ^ n) := by have := Nat.div_add_mod b (2 ^ n); omega
  rw [e]
  exact (Nat.two_pow_add_eq_or_of_lt hx _).symm
theorem or_mask {b bits : Int} (hb : fairA b bits = true) :
    orI .i64 b (sizeA bits - 1) = lastA b bits := by
  unfold orI
  obtain ⟨⟨h0, h1⟩, ⟨h2, h3⟩, h4⟩ := fairA_iff.1 hb
  have hs := sizeA_le h0
  have hp := sizeA_pos bits
  have hn := sizeN_le h0
  have hp' : 0 < 2 ^ (32 - bits).toNat := Nat.pow_pos (by decide)
  have e0 : (BitVec.ofInt IntKind.i64.bits (sizeA bits - 1)).toNat = 2 ^ (32 - bits).toNat - 1 := by
    rw [bv_toNat (by omega) (by omega), sizeA_nat]; omega
  have e1 : b.toNat % 2 ^ (32 - bits).toNat = 0 := by
    rw [sizeA_nat] at h4
    have : b = ((b.toNat : Nat) : Int) := by omega
    rw [this] at h4
    exact_mod_cast h4
  rw [BitVec.toNat_or, e0, bv_toNat h2 h3, or_low e1 (by omega), wrap_nat (by omega)]
  unfold lastA
  rw [sizeA_nat]
  omega
theorem whole_mask {bits : Int} (h0 : 0 ≤ bits) (h1 : bits ≤ 32) : (4294967295 : Int) % sizeA bits = sizeA bits - 1 := by
  have hf : ∀ n : Fin 33, (4294967295 : Int) % 2 ^ (n : Nat) = 2 ^ (n : Nat) - 1 := by decide
  exact hf ⟨(32 - bits).toNat, by omega⟩
theorem mod_has {base bits a : Int} (hb : fairA base bits = true) (ha : 0 ≤ a ∧ a ≤ 4294967295) : (a - a % sizeA bits = base) ↔ (base ≤ a ∧ a < base + sizeA bits) := by
  obtain ⟨⟨h0, h1⟩, ⟨h2, h3⟩, h4⟩ := fairA_iff.1 hb
  have hp := sizeA_pos bits
  have q1 := Int.emod_nonneg a (show sizeA bits ≠ 0 by omega)
  have q2 := Int.emod_lt_of_pos a hp
  constructor
  · intro h; omega
  · intro ⟨k1, k2⟩
    have e1 := Int.emod_add_mul_ediv base (sizeA bits)
    have : a % sizeA bits = (a - base) % sizeA bits := by
      have e2 : a = (a - base) + sizeA bits * (base / sizeA bits) := by omega
      conv => lhs; rw [e2]
      rw [Int.add_mul_emod_self_left]
    rw [this, Int.emod_eq_of_lt (by omega) (by omega)]
    omega

theorem addrRight (a : Int) : Holds Tryd.prog 30 [.d (.int .i64 a)] (.d (.bool (rightA a))) (fun _ => false) := by
  refine Holds.by (by kernel_rfl) Tryd.func30 (by kernel_rfl) rfl [] (by simp) (by kernel_rfl) (by kernel_rfl) rfl ?_
  conv in ccs _ => cbv
  repeat' (first | (simp (config := sc) (disch := try exact dd) [*, std, rightA]) | (refine sel_by ?_ ?_ <;> intro hc <;> have hc2 := hc <;> (try simp only [decide_eq_true_eq, decide_eq_false_iff_not, Bool.and_eq_true, Bool.or_eq_true, Bool.not_eq_true', Bool.not_eq_false', Bool.or_eq_false_iff, Bool.and_eq_false_iff] at hc2) <;> try omega) | (refine cnd_by ?_ ?_ <;> intro hc <;> have hc2 := hc <;> (try simp only [decide_eq_true_eq, decide_eq_false_iff_not, Bool.and_eq_true, Bool.or_eq_true, Bool.not_eq_true', Bool.not_eq_false', Bool.or_eq_false_iff, Bool.and_eq_false_iff] at hc2) <;> try omega) | (refine onSt_if (by omega) ?_) | (split <;> try omega) | omega)

theorem addrMask (bits : Int) (h0 : 0 ≤ bits) (h1 : bits ≤ 32) : Holds Tryd.prog 70 [.d (.int .i64 bits)] (.d (.int .i64 (4294967296 - sizeA bits))) (fun _ => false) := by
  refine Holds.by (by kernel_rfl) Tryd.func70 (by kernel_rfl) rfl [] (by simp) (by kernel_rfl) (by kernel_rfl) rfl ?_
  conv in ccs _ => cbv
  have hw : IntKind.i64.wrap (32 - bits) = 32 - bits := wrap_in (by omega)
  have hm := mask_nat h0 h1
  simp (config := sc) (disch := try exact dd) [std, hw, hm]

theorem addrFair (base bits : Int) : Holds Tryd.prog 95 [.d (.int .i64 base), .d (.int .i64 bits)] (.d (.bool (fairA base bits))) (fun _ => false) := by
  refine Holds.by (by kernel_rfl) Tryd.func95 (by kernel_rfl) rfl [] (by simp) (by kernel_rfl) (by kernel_rfl) rfl ?_
  conv in ccs _ => cbv
  by_cases h0 : 0 ≤ bits
  · by_cases h1 : bits ≤ 32
    · by_cases h2 : rightA base = true
      · have h3 := andNot_mask (rightA_iff.1 h2) h0 h1
        repeat' (first | (simp (config := sc) (disch := try exact dd) [*, std, fairA]) | (refine oc (addrRight _) ?_) | (refine oc (addrMask _ h0 h1) ?_) | (refine sel_by ?_ ?_ <;> intro hc <;> have hc2 := hc <;> (try simp only [decide_eq_true_eq, decide_eq_false_iff_not, Bool.and_eq_true, Bool.or_eq_true, Bool.not_eq_true', Bool.not_eq_false', Bool.or_eq_false_iff, Bool.and_eq_false_iff] at hc2) <;> try omega) | (refine cnd_by ?_ ?_ <;> intro hc <;> have hc2 := hc <;> (try simp only [decide_eq_true_eq, decide_eq_false_iff_not, Bool.and_eq_true, Bool.or_eq_true, Bool.not_eq_true', Bool.not_eq_false', Bool.or_eq_false_iff, Bool.and_eq_false_iff] at hc2) <;> try omega) | (refine onSt_if (by omega) ?_) | (split <;> try omega) | omega)
      · repeat' (first | (simp (config := sc) (disch := try exact dd) [*, std, fairA]) | (refine oc (addrRight _) ?_) | (refine sel_by ?_ ?_ <;> intro hc <;> have hc2 := hc <;> (try simp only [decide_eq_true_eq, decide_eq_false_iff_not, Bool.and_eq_true, Bool.or_eq_true, Bool.not_eq_true', Bool.not_eq_false', Bool.or_eq_false_iff, Bool.and_eq_false_iff] at hc2) <;> try omega) | (refine cnd_by ?_ ?_ <;> intro hc <;> have hc2 := hc <;> (try simp only [decide_eq_true_eq, decide_eq_false_iff_not, Bool.and_eq_true, Bool.or_eq_true, Bool.not_eq_true', Bool.not_eq_false', Bool.or_eq_false_iff, Bool.and_eq_false_iff] at hc2) <;> try omega) | (refine onSt_if (by omega) ?_) | (split <;> try omega) | omega)
    · repeat' (first | (simp (config := sc) (disch := try exact dd) [*, std, fairA]) | (refine sel_by ?_ ?_ <;> intro hc <;> have hc2 := hc <;> (try simp only [decide_eq_true_eq, decide_eq_false_iff_not, Bool.and_eq_true, Bool.or_eq_true, Bool.not_eq_true', Bool.not_eq_false', Bool.or_eq_false_iff, Bool.and_eq_false_iff] at hc2) <;> try omega) | (refine cnd_by ?_ ?_ <;> intro hc <;> have hc2 := hc <;> (try simp only [decide_eq_true_eq, decide_eq_false_iff_not, Bool.and_eq_true, Bool.or_eq_true, Bool.not_eq_true', Bool.not_eq_false', Bool.or_eq_false_iff, Bool.and_eq_false_iff] at hc2) <;> try omega) | (refine onSt_if (by omega) ?_) | (split <;> try omega) | omega)
  · repeat' (first | (simp (config := sc) (disch := try exact dd) [*, std, fairA]) | (refine sel_by ?_ ?_ <;> intro hc <;> have hc2 := hc <;> (try simp only [decide_eq_true_eq, decide_eq_false_iff_not, Bool.and_eq_true, Bool.or_eq_true, Bool.not_eq_true', Bool.not_eq_false', Bool.or_eq_false_iff, Bool.and_eq_false_iff] at hc2) <;> try omega) | (refine cnd_by ?_ ?_ <;> intro hc <;> have hc2 := hc <;> (try simp only [decide_eq_true_eq, decide_eq_false_iff_not, Bool.and_eq_true, Bool.or_eq_true, Bool.not_eq_true', Bool.not_eq_false', Bool.or_eq_false_iff, Bool.and_eq_false_iff] at hc2) <;> try omega) | (refine onSt_if (by omega) ?_) | (split <;> try omega) | omega)

theorem addrHas (base bits a : Int) : Holds Tryd.prog 93 [.d (.int .i64 base), .d (.int .i64 bits), .d (.int .i64 a)] (.d (.bool (hasA base bits a))) (fun _ => false) := by
  refine Holds.by (by kernel_rfl) Tryd.func93 (by kernel_rfl) rfl [] (by simp) (by kernel_rfl) (by kernel_rfl) rfl ?_
  conv in ccs _ => cbv
  by_cases h0 : fairA base bits = true
  · have hb := fairA_iff.1 h0
    by_cases h2 : rightA a = true
    · have h3 := and_mask (rightA_iff.1 h2) hb.1.1 hb.1.2
      have h4 := mod_has h0 (rightA_iff.1 h2)
      repeat' (first | (simp (config := sc) (disch := try exact dd) [*, std, hasA]) | (refine oc (addrFair _ _) ?_) | (refine oc (addrRight _) ?_) | (refine oc (addrMask _ hb.1.1 hb.1.2) ?_) | (refine sel_by ?_ ?_ <;> intro hc <;> have hc2 := hc <;> (try simp only [decide_eq_true_eq, decide_eq_false_iff_not, Bool.and_eq_true, Bool.or_eq_true, Bool.not_eq_true', Bool.not_eq_false', Bool.or_eq_false_iff, Bool.and_eq_false_iff] at hc2) <;> try omega) | (refine cnd_by ?_ ?_ <;> intro hc <;> have hc2 := hc <;> (try simp only [decide_eq_true_eq, decide_eq_false_iff_not, Bool.and_eq_true, Bool.or_eq_true, Bool.not_eq_true', Bool.not_eq_false', Bool.or_eq_false_iff, Bool.and_eq_false_iff] at hc2) <;> try omega) | (refine onSt_if (by omega) ?_) | (split <;> try omega) | omega)
    · repeat' (first | (simp (config := sc) (disch := try exact dd) [*, std, hasA]) | (refine oc (addrFair _ _) ?_) | (refine oc (addrRight _) ?_) | (refine sel_by ?_ ?_ <;> intro hc <;> have hc2 := hc <;> (try simp only [decide_eq_true_eq, decide_eq_false_iff_not, Bool.and_eq_true, Bool.or_eq_true, Bool.not_eq_true', Bool.not_eq_false', Bool.or_eq_false_iff, Bool.and_eq_false_iff] at hc2) <;> try omega) | (refine cnd_by ?_ ?_ <;> intro hc <;> have hc2 := hc <;> (try simp only [decide_eq_true_eq, decide_eq_false_iff_not, Bool.and_eq_true, Bool.or_eq_true, Bool.not_eq_true', Bool.not_eq_false', Bool.or_eq_false_iff, Bool.and_eq_false_iff] at hc2) <;> try omega) | (refine onSt_if (by omega) ?_) | (split <;> try omega) | omega)
  · repeat' (first | (simp (config := sc) (disch := try exact dd) [*, std, hasA]) | (refine oc (addrFair _ _) ?_) | (refine sel_by ?_ ?_ <;> intro hc <;> have hc2 := hc <;> (try simp only [decide_eq_true_eq, decide_eq_false_iff_not, Bool.and_eq_true, Bool.or_eq_true, Bool.not_eq_true', Bool.not_eq_false', Bool.or_eq_false_iff, Bool.and_eq_false_iff] at hc2) <;> try omega) | (refine cnd_by ?_ ?_ <;> intro hc <;> have hc2 := hc <;> (try simp only [decide_eq_true_eq, decide_eq_false_iff_not, Bool.and_eq_true, Bool.or_eq_true, Bool.not_eq_true', Bool.not_eq_false', Bool.or_eq_false_iff, Bool.and_eq_false_iff] at hc2) <;> try omega) | (refine onSt_if (by omega) ?_) | (split <;> try omega) | omega)

theorem addrLast (base bits : Int) : Holds Tryd.prog 97 [.d (.int .i64 base), .d (.int .i64 bits)] (.tup [.d (.int .i64 (if fairA base bits = true then lastA base bits else 0)), .d (.int .i64 (if fairA base bits = true then 0 else 1))]) (fun _ => false) := by
  refine Holds.by (by kernel_rfl) Tryd.func97 (by kernel_rfl) rfl [] (by simp) (by kernel_rfl) (by kernel_rfl) rfl ?_
  conv in ccs _ => cbv
  by_cases h0 : fairA base bits = true
  · have hb := fairA_iff.1 h0
    have h3 := andNot_mask (a := 4294967295) ⟨by omega, by omega⟩ hb.1.1 hb.1.2
    rw [whole_mask hb.1.1 hb.1.2] at h3
    have h4 := or_mask h0
    repeat' (first | (simp (config := sc) (disch := try exact dd) [*, std]) | (refine oc (addrFair _ _) ?_) | (refine oc (addrMask _ hb.1.1 hb.1.2) ?_) | (refine sel_by ?_ ?_ <;> intro hc <;> have hc2 := hc <;> (try simp only [decide_eq_true_eq, decide_eq_false_iff_not, Bool.and_eq_true, Bool.or_eq_true, Bool.not_eq_true', Bool.not_eq_false', Bool.or_eq_false_iff, Bool.and_eq_false_iff] at hc2) <;> try omega) | (refine cnd_by ?_ ?_ <;> intro hc <;> have hc2 := hc <;> (try simp only [decide_eq_true_eq, decide_eq_false_iff_not, Bool.and_eq_true, Bool.or_eq_true, Bool.not_eq_true', Bool.not_eq_false', Bool.or_eq_false_iff, Bool.and_eq_false_iff] at hc2) <;> try omega) | (refine onSt_if (by omega) ?_) | (split <;> try omega) | omega)
  · repeat' (first | (simp (config := sc) (disch := try exact dd) [*, std]) | (refine oc (addrFair _ _) ?_) | (refine sel_by ?_ ?_ <;> intro hc <;> have hc2 := hc <;> (try simp only [decide_eq_true_eq, decide_eq_false_iff_not, Bool.and_eq_true, Bool.or_eq_true, Bool.not_eq_true', Bool.not_eq_false', Bool.or_eq_false_iff, Bool.and_eq_false_iff] at hc2) <;> try omega) | (refine cnd_by ?_ ?_ <;> intro hc <;> have hc2 := hc <;> (try simp only [decide_eq_true_eq, decide_eq_false_iff_not, Bool.and_eq_true, Bool.or_eq_true, Bool.not_eq_true', Bool.not_eq_false', Bool.or_eq_false_iff, Bool.and_eq_false_iff] at hc2) <;> try omega) | (refine onSt_if (by omega) ?_) | (split <;> try omega) | omega)

theorem addrMaskOf (bits : Int) : Holds Tryd.prog 54 [.d (.int .i64 bits)] (.tup [.d (.int .i64 (if 0 ≤ bits ∧ bits ≤ 32 then 4294967296 - sizeA bits else 0)), .d (.int .i64 (if 0 ≤ bits ∧ bits ≤ 32 then 0 else 1))]) (fun _ => false) := by
  refine Holds.by (by kernel_rfl) Tryd.func54 (by kernel_rfl) rfl [] (by simp) (by kernel_rfl) (by kernel_rfl) rfl ?_
  conv in ccs _ => cbv
  by_cases h0 : 0 ≤ bits
  · by_cases h1 : bits ≤ 32
    · repeat' (first | (simp (config := sc) (disch := try exact dd) [*, std]) | (refine oc (addrMask _ h0 h1) ?_) | (refine sel_by ?_ ?_ <;> intro hc <;> have hc2 := hc <;> (try simp only [decide_eq_true_eq, decide_eq_false_iff_not, Bool.and_eq_true, Bool.or_eq_true, Bool.not_eq_true', Bool.not_eq_false', Bool.or_eq_false_iff, Bool.and_eq_false_iff] at hc2) <;> try omega) | (refine cnd_by ?_ ?_ <;> intro hc <;> have hc2 := hc <;> (try simp only [decide_eq_true_eq, decide_eq_false_iff_not, Bool.and_eq_true, Bool.or_eq_true, Bool.not_eq_true', Bool.not_eq_false', Bool.or_eq_false_iff, Bool.and_eq_false_iff] at hc2) <;> try omega) | (refine onSt_if (by omega) ?_) | (split <;> try omega) | omega)
    · repeat' (first | (simp (config := sc) (disch := try exact dd) [*, std]) | (refine sel_by ?_ ?_ <;> intro hc <;> have hc2 := hc <;> (try simp only [decide_eq_true_eq, decide_eq_false_iff_not, Bool.and_eq_true, Bool.or_eq_true, Bool.not_eq_true', Bool.not_eq_false', Bool.or_eq_false_iff, Bool.and_eq_false_iff] at hc2) <;> try omega) | (refine cnd_by ?_ ?_ <;> intro hc <;> have hc2 := hc <;> (try simp only [decide_eq_true_eq, decide_eq_false_iff_not, Bool.and_eq_true, Bool.or_eq_true, Bool.not_eq_true', Bool.not_eq_false', Bool.or_eq_false_iff, Bool.and_eq_false_iff] at hc2) <;> try omega) | (refine onSt_if (by omega) ?_) | (split <;> try omega) | omega)
  · repeat' (first | (simp (config := sc) (disch := try exact dd) [*, std]) | (refine sel_by ?_ ?_ <;> intro hc <;> have hc2 := hc <;> (try simp only [decide_eq_true_eq, decide_eq_false_iff_not, Bool.and_eq_true, Bool.or_eq_true, Bool.not_eq_true', Bool.not_eq_false', Bool.or_eq_false_iff, Bool.and_eq_false_iff] at hc2) <;> try omega) | (refine cnd_by ?_ ?_ <;> intro hc <;> have hc2 := hc <;> (try simp only [decide_eq_true_eq, decide_eq_false_iff_not, Bool.and_eq_true, Bool.or_eq_true, Bool.not_eq_true', Bool.not_eq_false', Bool.or_eq_false_iff, Bool.and_eq_false_iff] at hc2) <;> try omega) | (refine onSt_if (by omega) ?_) | (split <;> try omega) | omega)

theorem addrMeet (b k c l : Int) : Holds Tryd.prog 98 [.d (.int .i64 b), .d (.int .i64 k), .d (.int .i64 c), .d (.int .i64 l)] (.d (.bool (fairA b k && fairA c l && (hasA b k c || hasA c l b)))) (fun _ => false) := by
  refine Holds.by (by kernel_rfl) Tryd.func98 (by kernel_rfl) rfl [] (by simp) (by kernel_rfl) (by kernel_rfl) rfl ?_
  conv in ccs _ => cbv
  cases h0 : fairA b k <;> cases h1 : fairA c l <;> cases h2 : hasA b k c <;> repeat' (first | (simp (config := sc) (disch := try exact dd) [*, std]) | (refine oc (addrFair _ _) ?_) | (refine oc (addrHas _ _ _) ?_) | (refine sel_by ?_ ?_ <;> intro hc <;> have hc2 := hc <;> (try simp only [decide_eq_true_eq, decide_eq_false_iff_not, Bool.and_eq_true, Bool.or_eq_true, Bool.not_eq_true', Bool.not_eq_false', Bool.or_eq_false_iff, Bool.and_eq_false_iff] at hc2) <;> try omega) | (refine cnd_by ?_ ?_ <;> intro hc <;> have hc2 := hc <;> (try simp only [decide_eq_true_eq, decide_eq_false_iff_not, Bool.and_eq_true, Bool.or_eq_true, Bool.not_eq_true', Bool.not_eq_false', Bool.or_eq_false_iff, Bool.and_eq_false_iff] at hc2) <;> try omega) | (refine onSt_if (by omega) ?_) | (split <;> try omega) | omega)

theorem ref01Right (a : Int) : Holds Tryd.prog 33 [.d (.int .i64 a)] (.d (.bool (rightA a))) (fun _ => false) := by
  refine Holds.by (by kernel_rfl) Tryd.func33 (by kernel_rfl) rfl [] (by simp) (by kernel_rfl) (by kernel_rfl) rfl ?_
  conv in ccs _ => cbv
  repeat' (first | (simp (config := sc) (disch := try exact dd) [*, std, rightA]) | (refine sel_by ?_ ?_ <;> intro hc <;> have hc2 := hc <;> (try simp only [decide_eq_true_eq, decide_eq_false_iff_not, Bool.and_eq_true, Bool.or_eq_true, Bool.not_eq_true', Bool.not_eq_false', Bool.or_eq_false_iff, Bool.and_eq_false_iff] at hc2) <;> try omega) | (refine cnd_by ?_ ?_ <;> intro hc <;> have hc2 := hc <;> (try simp only [decide_eq_true_eq, decide_eq_false_iff_not, Bool.and_eq_true, Bool.or_eq_true, Bool.not_eq_true', Bool.not_eq_false', Bool.or_eq_false_iff, Bool.and_eq_false_iff] at hc2) <;> try omega) | (refine onSt_if (by omega) ?_) | (split <;> try omega) | omega)

/-- Two prefixes meet, told in two ways: two that are right and have an address in common: one has the other's base. -/
theorem meet_eq (b k c l : Int) : (fairA b k && fairA c l && (hasA b k c || hasA c l b)) = meetA b k c l := by
  cases h0 : fairA b k with
  | false => simp [meetA, h0]
  | true =>
    cases h1 : fairA c l with
    | false => simp [meetA, h0, h1]
    | true =>
      obtain ⟨⟨a0, a1⟩, ⟨a2, a3⟩, a4⟩ := fairA_iff.1 h0
      obtain ⟨⟨b0, b1⟩, ⟨b2, b3⟩, b4⟩ := fairA_iff.1 h1
      have := sizeA_pos k
      have := sizeA_pos l
      rw [Bool.eq_iff_iff]
      simp only [meetA, h0, h1, Bool.and_true, Bool.true_and, Bool.or_eq_true, hasA_iff, decide_eq_true_eq, eq_self, true_and]
      unfold lastA
      omega

end Go.Proofs.YtimlalndjfmnbaaDoor
