/- Sums: what the program's sum and the document's answer. -/
import Derived.Test.YtkbidfohcanijaaGreatCode
namespace Go.Proofs.YtkbidfohcanijaaGreat
open BoEng Go
set_option maxRecDepth 100000
attribute [-simp] List.map_take List.map_drop List.length_flatMap
set_option linter.unusedSimpArgs false
set_option linter.unusedVariables false

def crcB (c : Nat) : Nat := if c % 2 = 1 then (c / 2) ^^^ 3988292384 else c / 2
def crcN : Nat → Nat → Nat
  | 0, c => c
  | n + 1, c => crcB (crcN n c)
def sumC (b : List UInt8) : Nat := b.foldl (fun c x => crcN 8 (c ^^^ x.toNat)) 4294967295
def sumN (b : List UInt8) : Nat := sumC b ^^^ 4294967295
theorem xor_lt32 {a b : Nat} (ha : a < 4294967296) (hb : b < 4294967296) : a ^^^ b < 4294967296 := Nat.xor_lt_two_pow (n := 32) ha hb
theorem crcB_lt {c : Nat} (h : c < 4294967296) : crcB c < 4294967296 := by
  unfold crcB
  split
  · exact xor_lt32 (by omega) (by decide)
  · omega
theorem crcN_lt {c : Nat} (h : c < 4294967296) : ∀ n, crcN n c < 4294967296
  | 0 => h
  | n + 1 => crcB_lt (crcN_lt h n)
theorem u8_lt32 (x : UInt8) : x.toNat < 4294967296 := by have := x.toNat_lt; omega
theorem sumC_snoc (b : List UInt8) (x : UInt8) : sumC (b ++ [x]) = crcN 8 (sumC b ^^^ x.toNat) := by simp [sumC]
theorem sumC_take (b : List UInt8) {i : Nat} (h : i < b.length) : sumC (b.take (i + 1)) = crcN 8 (sumC (b.take i) ^^^ b[i].toNat) := by
  rw [List.take_succ_eq_append_getElem h, sumC_snoc]
theorem sumC_lt (b : List UInt8) : sumC b < 4294967296 := by
  have : ∀ (l : List UInt8) (c : Nat), c < 4294967296 → l.foldl (fun c x => crcN 8 (c ^^^ x.toNat)) c < 4294967296 := by
    intro l
    induction l with
    | nil => intro c h; exact h
    | cons x l ih => intro c h; exact ih _ (crcN_lt (xor_lt32 h (u8_lt32 x)) 8)
  exact this b _ (by decide)
theorem sumN_lt (b : List UInt8) : sumN b < 4294967296 := xor_lt32 (sumC_lt b) (by decide)
theorem xor_u32 {a b : Nat} (ha : a < 4294967296) (hb : b < 4294967296) : xorI .u32 (a : Int) (b : Int) = ((a ^^^ b : Nat) : Int) := by
  have h := xor_lt32 ha hb
  unfold xorI
  show IntKind.u32.wrap ((BitVec.ofInt 32 (a : Int) ^^^ BitVec.ofInt 32 (b : Int)).toNat : Int) = _
  rw [BitVec.ofInt_natCast, BitVec.ofInt_natCast, BitVec.toNat_xor, BitVec.toNat_ofNat, BitVec.toNat_ofNat, Nat.mod_eq_of_lt (by omega), Nat.mod_eq_of_lt (by omega)]
  exact wrap_u32 (by omega)

def tnI (c : Nat) (i : Nat) (S : PS) : Prop := i ≤ 8 ∧ S.t 0 = .d (.int .u32 (crcN i c : Nat)) ∧ S.t 3 = .d (.int .i64 i)
theorem ref02Turn (c : Nat) (hc : c < 4294967296) : Holds Tryz.prog 106 [.d (.int .u32 c)] (.d (.int .u32 (crcN 8 c : Nat))) (fun _ => false) := by
  refine Holds.by (by kernel_rfl) Tryz.func106 (by kernel_rfl) rfl [] (by simp) (by kernel_rfl) (by kernel_rfl) rfl ?_
  conv in ccs _ => cbv
  simp (config := sc) (disch := first | exact dd | fail) [std]
  refine lp (tnI c) (fun i => 8 - i) 0 ⟨by omega, by simp [crcN], by simp⟩ ?_
  rintro i S ⟨hi, e0, e3⟩
  have hlt := crcN_lt hc i
  have hs : crcN (i + 1) c = crcB (crcN i c) := rfl
  by_cases h8 : (i : Int) < 8
  · generalize crcN i c = x at *
    have hw : IntKind.u32.wrap ((x : Int) / 2) = ((x / 2 : Nat) : Int) := by rw [wrap_u32 (by omega)]; omega
    have hm : (x : Int).tmod 2 = ((x % 2 : Nat) : Int) := (Int.ofNat_tmod x 2).symm
    by_cases hp : x % 2 = 1
    · rw [hp] at hm
      have hx := xor_u32 (a := x / 2) (b := 3988292384) (by omega) (by decide)
      have hb : crcB x = (x / 2) ^^^ 3988292384 := by simp [crcB, hp]
      simp (config := sc) (disch := first | exact dd | fail) [std, e0, e3, h8, hm, hw]
      exact nxt_of (i + 1) ⟨by omega, by rw [hs, hb, ← hx]; simp (config := sc) (disch := first | exact dd | fail) [std, hw], by simp⟩ (by omega)
    · have hp0 : x % 2 = 0 := by omega
      rw [hp0] at hm
      have hb : crcB x = x / 2 := by simp [crcB, hp]
      simp (config := sc) (disch := first | exact dd | fail) [std, e0, e3, h8, hm, hw]
      exact nxt_of (i + 1) ⟨by omega, by rw [hs, hb]; simp (config := sc) (disch := first | exact dd | fail) [std, hw], by simp⟩ (by omega)
  · have : i = 8 := by omega
    subst this
    simp (config := sc) (disch := first | exact dd | fail) [std, e0, e3, h8]

theorem xor_byte {c : Nat} (hc : c < 4294967296) (x : UInt8) : xorI .u32 (c : Int) (x.toNat : Int) = ((c ^^^ x.toNat : Nat) : Int) := xor_u32 hc (u8_lt32 x)
theorem u32_byte (x : UInt8) : IntKind.u32.wrap ((x.toNat : Nat) : Int) = (x.toNat : Nat) := by have := x.toNat_lt; exact wrap_u32 (by omega)
def rsmI2 (b : List UInt8) (i : Nat) (S : PS) : Prop := i ≤ b.length ∧ S.t 0 = .d (.slice (b.map byteD)) ∧ S.t 3 = .d (.int .u32 (sumC (b.take i) : Nat)) ∧ S.t 4 = .d (.int .i64 i)
theorem ref02Sum (b : List UInt8) (hl : b.length ≤ 9223372036854775807) : Holds Tryz.prog 95 [.d (.slice (b.map byteD))] (.d (.int .u32 (sumN b : Nat))) (fun _ => false) := by
  refine Holds.by (by kernel_rfl) Tryz.func95 (by kernel_rfl) rfl [] (by simp) (by kernel_rfl) (by kernel_rfl) rfl ?_
  conv in ccs _ => cbv
  simp (config := sc) (disch := first | exact dd | fail) [std]
  refine lp (rsmI2 b) (fun i => b.length - i) 0 ⟨by omega, by simp, by simp [sumC], by simp⟩ ?_
  rintro i S ⟨hi, e0, e3, e4⟩
  have hlt := sumC_lt (b.take i)
  by_cases h : i < b.length
  · have k6 : (i : Int) < b.length := by omega
    have hst := sumC_take b h
    generalize sumC (b.take i) = c at *
    have hx := xor_byte hlt b[i]
    have q := ref02Turn (c ^^^ b[i].toNat) (xor_lt32 hlt (u8_lt32 _))
    simp (config := sc) (disch := first | exact dd | fail) [std, e0, e3, e4, k6, u32_byte, hx, byteD]
    refine o_call rfl rfl q rfl rfl ?_
    simp (config := sc) (disch := first | exact dd | fail) [std, e0, e3, e4, k6]
    exact nxt_of (i + 1) ⟨by omega, by simp (config := sc) (disch := first | exact dd | fail) [std, e0], by rw [hst]; simp, by simp⟩ (by omega)
  · have k6 : ¬ (i : Int) < b.length := by omega
    have : b.take i = b := List.take_of_length_le (by omega)
    rw [this] at e3 hlt
    have hx := xor_u32 (a := sumC b) (b := 4294967295) hlt (by decide)
    have hx2 : xorI .u32 (sumC b : Int) 4294967295 = ((sumN b : Nat) : Int) := hx
    simp (config := sc) (disch := first | exact dd | fail) [std, e0, e3, e4, k6, hx2]

theorem shr1_u32 (x : Nat) : shrI .u32 (x : Int) 1 = (x : Int) / 2 := by
  unfold shrI
  have : min ((1 : Int).toNat) IntKind.u32.bits = 1 := rfl
  rw [this, Int.fdiv_eq_ediv_of_nonneg]
  · rfl
  · decide
theorem and1_u32 {x : Nat} (h : x < 4294967296) : andI .u32 (x : Int) 1 = ((x % 2 : Nat) : Int) := by
  unfold andI
  show IntKind.u32.wrap ((BitVec.ofInt 32 (x : Int) &&& BitVec.ofInt 32 ((1 : Nat) : Int)).toNat : Int) = _
  rw [BitVec.ofInt_natCast, BitVec.ofInt_natCast, BitVec.toNat_and, BitVec.toNat_ofNat, BitVec.toNat_ofNat, Nat.mod_eq_of_lt (by omega), Nat.mod_eq_of_lt (by omega), Nat.and_one_is_mod]
  exact wrap_u32 (by omega)
theorem not_u32 {a : Nat} (ha : a < 4294967296) : notI .u32 (a : Int) = ((a ^^^ 4294967295 : Nat) : Int) := by
  have h := xor_u32 (a := 4294967295) (b := a) (by decide) ha
  unfold notI
  have e : (if IntKind.u32.signed = true then -1 else IntKind.u32.max) = ((4294967295 : Nat) : Int) := rfl
  rw [e]
  rw [Nat.xor_comm]
  exact h
def csO (b : List UInt8) (i : Nat) (S : PS) : Prop := i ≤ b.length ∧ S.t 3 = .d (.int .u32 (sumC (b.take i) : Nat)) ∧ S.t 6 = .d (.slice (b.map byteD)) ∧ S.t 7 = .d (.int .i64 b.length) ∧ S.t 8 = .d (.int .i64 i)
def csJ (b : List UInt8) (i : Nat) (c : Nat) (j : Nat) (S : PS) : Prop := j ≤ 8 ∧ S.t 3 = .d (.int .u32 (crcN j c : Nat)) ∧ S.t 6 = .d (.slice (b.map byteD)) ∧ S.t 7 = .d (.int .i64 b.length) ∧ S.t 8 = .d (.int .i64 i) ∧ S.t 16 = .d (.int .i64 j)
theorem codeSum (b : List UInt8) (hl : b.length ≤ 9223372036854775807) : Holds Tryz.prog 63 [.d (.slice (b.map byteD))] (.d (.int .u32 (sumN b : Nat))) (fun _ => false) := by
  refine Holds.by (by kernel_rfl) Tryz.func63 (by kernel_rfl) rfl [] (by simp) (by kernel_rfl) (by kernel_rfl) rfl ?_
  conv in ccs _ => cbv
  simp (config := sc) (disch := first | exact dd | fail) [std]
  refine lp (csO b) (fun i => b.length - i) 0 ⟨by omega, by simp [sumC], by simp, by simp, by simp⟩ ?_
  rintro i S ⟨hi, e3, e6, e7, e8⟩
  have hlt := sumC_lt (b.take i)
  by_cases h : i < b.length
  · have k6 : (i : Int) < b.length := by omega
    have hst := sumC_take b h
    generalize sumC (b.take i) = c at *
    have hx := xor_byte hlt b[i]
    have hlt2 := xor_lt32 hlt (u8_lt32 b[i])
    simp (config := sc) (disch := first | exact dd | fail) [std, e3, e6, e7, e8, k6, u32_byte, hx, byteD]
    refine lp (csJ b i (c ^^^ b[i].toNat)) (fun j => 8 - j) 0 ⟨by omega, by simp [crcN], by simp (config := sc) (disch := first | exact dd | fail) [std, e6], by simp (config := sc) (disch := first | exact dd | fail) [std, e7], by simp (config := sc) (disch := first | exact dd | fail) [std, e8], by simp⟩ ?_
    generalize c ^^^ b[i].toNat = y at *
    clear e3 e6 e7 e8 hx S
    rintro j S ⟨hj, e3, e6, e7, e8, e16⟩
    have hlt3 := crcN_lt hlt2 j
    have hs : crcN (j + 1) y = crcB (crcN j y) := rfl
    by_cases h8 : (j : Int) < 8
    · generalize crcN j y = x at *
      have h1 := shr1_u32 x
      have h2 := and1_u32 hlt3
      by_cases hp : x % 2 = 1
      · rw [hp] at h2
        have hm : IntKind.u32.wrap 3988292384 = 3988292384 := rfl
        have hx : xorI .u32 ((x : Int) / 2) 3988292384 = ((x / 2 ^^^ 3988292384 : Nat) : Int) := by
          have := xor_u32 (a := x / 2) (b := 3988292384) (by omega) (by decide)
          simpa using this
        have hb : crcB x = (x / 2) ^^^ 3988292384 := by simp [crcB, hp]
        simp (config := sc) (disch := first | exact dd | fail) [std, e3, e6, e7, e8, e16, h8, h1, h2, hm, hx]
        exact nxt_of (j + 1) ⟨by omega, by rw [hs, hb]; simp (config := sc) (disch := first | exact dd | fail) [std, hx], by simp (config := sc) (disch := first | exact dd | fail) [std, e6], by simp (config := sc) (disch := first | exact dd | fail) [std, e7], by simp (config := sc) (disch := first | exact dd | fail) [std, e8], by simp⟩ (by omega)
      · have hp0 : x % 2 = 0 := by omega
        rw [hp0] at h2
        have hm : IntKind.u32.wrap 0 = 0 := rfl
        have hx : xorI .u32 ((x : Int) / 2) 0 = ((x / 2 : Nat) : Int) := by
          have := xor_u32 (a := x / 2) (b := 0) (by omega) (by decide)
          simpa using this
        have hb : crcB x = x / 2 := by simp [crcB, hp]
        simp (config := sc) (disch := first | exact dd | fail) [std, e3, e6, e7, e8, e16, h8, h1, h2, hm, hx]
        exact nxt_of (j + 1) ⟨by omega, by rw [hs, hb]; simp (config := sc) (disch := first | exact dd | fail) [std, hx], by simp (config := sc) (disch := first | exact dd | fail) [std, e6], by simp (config := sc) (disch := first | exact dd | fail) [std, e7], by simp (config := sc) (disch := first | exact dd | fail) [std, e8], by simp⟩ (by omega)
    · have : j = 8 := by omega
      subst this
      simp (config := sc) (disch := first | exact dd | fail) [std, e3, e6, e7, e8, e16, h8]
      exact nxt_of (i + 1) ⟨by omega, by rw [hst]; simp (config := sc) (disch := first | exact dd | fail) [std, e3], by simp (config := sc) (disch := first | exact dd | fail) [std, e6], by simp (config := sc) (disch := first | exact dd | fail) [std, e7], by simp⟩ (by omega)
  · have k6 : ¬ (i : Int) < b.length := by omega
    have : b.take i = b := List.take_of_length_le (by omega)
    rw [this] at e3 hlt
    have hx := not_u32 hlt
    have hx2 : notI .u32 (sumC b : Int) = ((sumN b : Nat) : Int) := hx
    simp (config := sc) (disch := first | exact dd | fail) [std, e3, e6, e7, e8, k6, hx2]

end Go.Proofs.YtkbidfohcanijaaGreat
