/- Sums: what the program's sum and the document's answer. -/
import Derived.Test.YtimlalndjfmnbaaDoorCode
namespace Go.Proofs.YtimlalndjfmnbaaDoor
open BoEng Go
set_option maxRecDepth 100000
set_option linter.unusedSimpArgs false
set_option linter.unusedVariables false

def crcB (c : Nat) : Nat := if c % 2 = 1 then (c / 2) ^^^ 3988292384 else c / 2
def crcN : Nat → Nat → Nat
  | 0, c => c
  | n + 1, c => crcB (crcN n c)
def sumC (b : List UInt8) : Nat := b.foldl (fun c x => crcN 8 (c ^^^ x.toNat)) 4294967295
def sumN (b : List UInt8) : Nat := sumC b ^^^ 4294967295
theorem xor_lt32 {a b : Nat} (ha : a < 4294967296) (hb : b < 4294967296) : a ^^^ b < 4294967296 := Nat.xor_lt_two_pow (n := 32) ha hb
theorem crcB_lt {c : Nat} (h : c < 4294967296) : crcB c < 4294967296 := by
  unfold crcB
  split
  · exact xor_lt32 (by omega) (by decide)
  · omega
theorem crcN_lt {c : Nat} (h : c < 4294967296) : ∀ n, crcN n c < 4294967296
  | 0 => h
  | n + 1 => crcB_lt (crcN_lt h n)
theorem u8_lt32 (x : UInt8) : x.toNat < 4294967296 := by have := x.toNat_lt; omega
theorem sumC_snoc (b : List UInt8) (x : UInt8) : sumC (b ++ [x]) = crcN 8 (sumC b ^^^ x.toNat) := by simp [sumC]
theorem sumC_take (b : List UInt8) {i : Nat} (h : i < b.length) : sumC (b.take (i + 1)) = crcN 8 (sumC (b.take i) ^^^ b[i].toNat) := by
  rw [List.take_succ_eq_append_getElem h, sumC_snoc]
theorem sumC_lt (b : List UInt8) : sumC b < 4294967296 := by
  have : ∀ (l : List UInt8) (c : Nat), c < 4294967296 → l.foldl (fun c x => crcN 8 (c ^^^ x.toNat)) c < 4294967296 := by
    intro l
    induction l with
    | nil => intro c h; exact h
    | cons x l ih => intro c h; exact ih _ (crcN_lt (xor_lt32 h (u8_lt32 x)) 8)
  exact this b _ (by decide)
theorem sumN_lt (b : List UInt8) : sumN b < 4294967296 := xor_lt32 (sumC_lt b) (by decide)
theorem xor_u32 {a b : Nat} (ha : a < 4294967296) (hb : b < 4294967296) : xorI .u32 (a : Int) (b : Int) = ((a ^^^ b : Nat) : Int) := by
  have h := xor_lt32 ha hb
  unfold xorI
  show IntKind.u32.wrap ((BitVec.ofInt 32 (a : Int) ^^^ BitVec.ofInt 32 (b : Int)).toNat : Int) = _
  rw [BitVec.ofInt_natCast, BitVec.ofInt_natCast, BitVec.toNat_xor, BitVec.toNat_ofNat, BitVec.toNat_ofNat, Nat.mod_eq_of_lt (by omega), Nat.mod_eq_of_lt (by omega)]
  exact wrap_u32 (by omega)

end Go.Proofs.YtimlalndjfmnbaaDoor
