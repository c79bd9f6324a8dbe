/- Frames: numbers as bytes, bytes with their length and sum ahead; what the program and the document answer. -/
import Derived.Test.YtimlalndjfmnbaaDoorSum
namespace Go.Proofs.YtimlalndjfmnbaaDoor
open BoEng Go
set_option maxRecDepth 100000
attribute [-simp] List.map_take List.map_drop List.length_flatMap
set_option linter.unusedSimpArgs false
set_option linter.unusedVariables false

/-- A number in bytes, the highest one first. -/
def putB (v : Nat) : Nat → List UInt8
  | 0 => []
  | n + 1 => putB (v / 256) n ++ [UInt8.ofNat (v % 256)]
theorem putB_len (v : Nat) : ∀ n, (putB v n).length = n
  | 0 => rfl
  | n + 1 => by simp [putB, putB_len (v / 256) n]
theorem putB_at : ∀ (n v k : Nat), k < n → (putB v n)[k]? = some (UInt8.ofNat (v / 256 ^ (n - 1 - k) % 256))
  | 0, v, k, h => by omega
  | n + 1, v, k, h => by
    unfold putB
    by_cases hk : k < n
    · rw [List.getElem?_append_left (by rw [putB_len]; exact hk), putB_at n (v / 256) k hk]
      congr 3
      rw [Nat.div_div_eq_div_mul, ← Nat.pow_succ']
      congr 2
      omega
    · have : k = n := by omega
      subst this
      rw [List.getElem?_append_right (by rw [putB_len]; omega), putB_len]
      simp
theorem putB_drop (v : Nat) {n k : Nat} (h : k < n) : (putB v n).drop k = UInt8.ofNat (v / 256 ^ (n - 1 - k) % 256) :: (putB v n).drop (k + 1) := by
  have hl : k < (putB v n).length := by rw [putB_len]; exact h
  have h1 := putB_at n v k h
  rw [List.getElem?_eq_getElem hl] at h1
  rw [List.drop_eq_getElem_cons hl, Option.some.inj h1]
theorem byte_mod (m : Nat) : IntKind.u8.wrap ((m % 256 : Nat) : Int) = ((UInt8.ofNat (m % 256)).toNat : Int) := by
  have : m % 256 < 256 := Nat.mod_lt _ (by decide)
  rw [wrap_u8 (by omega), UInt8.toNat_ofNat']
  congr 1
  omega

theorem valB_putB : ∀ (n v : Nat), v < 256 ^ n → valB (putB v n) = v
  | 0, v, h => by
    have : v = 0 := by simpa using h
    subst this
    rfl
  | n + 1, v, h => by
    have h1 : v / 256 < 256 ^ n := by
      rw [Nat.pow_succ] at h
      exact Nat.div_lt_of_lt_mul (by rw [Nat.mul_comm]; exact h)
    unfold putB
    rw [valB_snoc, valB_putB n (v / 256) h1]
    have h2 : (UInt8.ofNat (v % 256)).toNat = v % 256 := by
      rw [UInt8.toNat_ofNat']
      omega
    rw [h2]
    omega
theorem putB_valB : ∀ (n : Nat) (l : List UInt8), l.length = n → putB (valB l).toNat n = l
  | 0, l, h => by
    have : l = [] := List.eq_nil_of_length_eq_zero h
    subst this
    rfl
  | n + 1, l, h => by
    have hne : l ≠ [] := fun e => by subst e; simp at h
    have hl := List.dropLast_concat_getLast hne
    obtain ⟨m, b, hm⟩ : ∃ m b, l = m ++ [b] := ⟨_, _, hl.symm⟩
    subst hm
    have hml : m.length = n := by simpa using h
    have h0 := (valB_rng n m hml).1
    have hb := b.toNat_lt
    rw [valB_snoc]
    unfold putB
    have e1 : (valB m * 256 + (b.toNat : Int)).toNat / 256 = (valB m).toNat := by omega
    have e2 : (valB m * 256 + (b.toNat : Int)).toNat % 256 = b.toNat := by omega
    rw [e1, e2, putB_valB n m hml]
    simp
/-- What opening a frame answers: the bytes, how many the frame has, the error. -/
def frN (b : List UInt8) : Nat := (valB (b.take 2)).toNat
def frX (b : List UInt8) : List UInt8 := (b.drop 6).take (frN b)
def frS (b : List UInt8) : Nat := (valB ((b.drop 2).take 4)).toNat
def openS (b : List UInt8) : List UInt8 × Int × Int :=
  if b.length < 6 then ([], 0, 4) else if frN b > 2000 then ([], 0, 2) else if b.length < 6 + frN b then ([], 0, 4)
  else if sumN (frX b) = frS b then (frX b, 6 + frN b, 0) else ([], 0, 6)

theorem ref02Put : ∀ (n v : Nat), n ≤ 7 → v ≤ 9223372036854775807 → Holds Tryd.prog 37 [.d (.int .i64 v), .d (.int .i64 n)] (.d (.slice ((putB v n).map byteD))) (fun j => j == 0)
  | 0, v, hn, hv => by
    refine Holds.by (by kernel_rfl) Tryd.func37 (by kernel_rfl) rfl [] (by simp) (by kernel_rfl) (by kernel_rfl) rfl ?_
    conv in ccs _ => cbv
    simp (config := sc) (disch := try exact dd) [std, putB]
  | n + 1, v, hn, hv => by
    have ih := ref02Put n (v / 256) (by omega) (by omega)
    refine Holds.by (by kernel_rfl) Tryd.func37 (by kernel_rfl) rfl [] (by simp) (by kernel_rfl) (by kernel_rfl) rfl ?_
    conv in ccs _ => cbv
    have h0 : ¬ (n : Int) + 1 = 0 := by omega
    have h1 : (n : Int) + 1 - 1 = n := by omega
    have hd : (v : Int).tdiv 256 = ((v / 256 : Nat) : Int) := (Int.ofNat_tdiv v 256).symm
    have hm : (v : Int).tmod 256 = ((v % 256 : Nat) : Int) := (Int.ofNat_tmod v 256).symm
    have hb : IntKind.u8.wrap ((v : Int) % 256) = ((UInt8.ofNat (v % 256)).toNat : Int) := by
      have e : ((v % 256 : Nat) : Int) = (v : Int) % 256 := by omega
      rw [← e]
      exact byte_mod v
    have hpl := putB_len (v / 256) n
    simp (config := sc) (disch := try exact dd) [std, h0, h1, hd, hm]
    refine oc ih ?_
    simp (config := sc) (disch := try exact dd) [std, h0, h1, hd, hm]
    show List.map byteD (putB (v / 256) n ++ [UInt8.ofNat (v % 256)]) = _
    rw [List.map_append, hb]
    rfl

def lowB (v : Int) : UInt8 := UInt8.ofNat (v % 256).toNat
theorem lowB_nat (v : Int) : ((lowB v).toNat : Int) = v % 256 := by
  have h2 : ((v % 256).toNat) < 256 := by omega
  simp only [lowB, UInt8.toNat_ofNat']
  omega
theorem u8_wrapB (v : Int) : IntKind.u8.wrap v = ((lowB v).toNat : Int) := by
  rw [lowB_nat]
  unfold IntKind.wrap
  simp [IntKind.bits, IntKind.signed]
/-- The number in n bytes. -/
def putI (v : Int) : Nat → List UInt8
  | 0 => []
  | n + 1 => putI (v / 256) n ++ [lowB v]
@[simp] theorem putI_len : ∀ (n : Nat) (v : Int), (putI v n).length = n
  | 0, _ => rfl
  | n + 1, v => by simp [putI, putI_len n]
theorem div_div (v : Int) (n : Nat) : v / 256 / 256 ^ n = v / 256 ^ (n + 1) := by
  have hp : (0 : Int) < 256 ^ n := Int.pow_pos (by decide)
  rw [Int.ediv_ediv, if_neg (by omega), Int.pow_succ, Int.mul_comm]
  simp
theorem putI_head : ∀ (n : Nat) (v : Int), putI v (n + 1) = lowB (v / 256 ^ n) :: putI v n
  | 0, v => by simp [putI]
  | n + 1, v => by
    rw [putI, putI_head n (v / 256), putI, List.cons_append, div_div]
theorem putI_val : ∀ (n : Nat) (v : Int), 0 ≤ v → v < 256 ^ n → valB (putI v n) = v
  | 0, v, h0, h1 => by
    have : v = 0 := by simp at h1; omega
    subst this
    rfl
  | n + 1, v, h0, h1 => by
    rw [putI, valB_snoc, putI_val n (v / 256) (by omega) (by rw [Int.pow_succ] at h1; omega), lowB_nat]
    omega
theorem pow256 (n : Nat) : (256 : Int) ^ n = 2 ^ (8 * n) := by
  rw [Int.pow_mul]
  rfl
theorem shr_div {v : Int} {k : Nat} (hk : k ≤ 64) : shrI .i64 v (k : Int) = v / 2 ^ k := by
  unfold shrI
  have : min ((k : Int).toNat) IntKind.i64.bits = k := by
    have : IntKind.i64.bits = 64 := rfl
    omega
  rw [this, Int.fdiv_eq_ediv_of_nonneg]
  exact Int.le_of_lt (Int.pow_pos (by decide))

def putOk (v n : Int) : Bool := decide ((1 ≤ n ∧ n ≤ 7) ∧ 0 ≤ v ∧ v < 256 ^ n.toNat)
def putJ (v : Int) (n i : Nat) : List PV := List.replicate (n - i) (.d (.int .u8 0)) ++ ((putI v i).map byteD).map .d
theorem putJ_step (v : Int) {n i : Nat} (h : i < n) : (putJ v n i).take (n - 1 - i) ++ PV.d (.int .u8 ((lowB (v / 256 ^ i)).toNat : Nat)) :: (putJ v n i).drop (n - 1 - i + 1) = putJ v n (i + 1) := by
  unfold putJ
  have e : n - i = (n - 1 - i) + 1 := by omega
  have e2 : n - (i + 1) = n - 1 - i := by omega
  rw [e, e2, List.take_append_of_le_length (by simp), List.drop_append_of_le_length (by simp), putI_head]
  simp
theorem putJ_len (v : Int) {n i : Nat} (h : i ≤ n) : (putJ v n i).length = n := by simp [putJ]; omega
def cpJ (v : Int) (n : Nat) (fo g : Nat) (i : Nat) (S : PS) : Prop :=
  i ≤ n ∧ S.t 0 = .d (.int .i64 v) ∧ S.t 1 = .d (.int .i64 n) ∧ S.t 27 = .d (.int .i64 n) ∧ S.t 28 = .d (.int .i64 i) ∧ S.t 6 = .bsl (fo + 26) g n 1 false ∧ S.fo = fo ∧ S.gen (fo + 26) = g ∧ S.box (fo + 26) = putJ v n i
theorem codePut (v n : Int) :
    Holds Tryd.prog 35 [.d (.int .i64 v), .d (.int .i64 n)] (.tup [.d (.slice ((if putOk v n then putI v n.toNat else []).map byteD)), .d (.int .i64 (if putOk v n then 0 else 1))]) (fun j => j == 0) := by
  refine Holds.by (by kernel_rfl) Tryd.func35 (by kernel_rfl) rfl [] (by simp) (by kernel_rfl) (by kernel_rfl) rfl ?_
  conv in ccs _ => cbv
  by_cases h1 : n < 1 ∨ 7 < n ∨ v < 0
  · have hE : putOk v n = false := by simp only [putOk, decide_eq_false_iff_not]; omega
    rw [hE]
    repeat' (first | (simp (config := sc) (disch := try exact dd) [*, std]) | (refine sel_by ?_ ?_ <;> intro hc <;> have hc2 := hc <;> (try simp only [decide_eq_true_eq, decide_eq_false_iff_not, Bool.and_eq_true, Bool.or_eq_true, Bool.not_eq_true', Bool.not_eq_false', Bool.or_eq_false_iff, Bool.and_eq_false_iff] at hc2) <;> try omega) | (refine cnd_by ?_ ?_ <;> intro hc <;> have hc2 := hc <;> (try simp only [decide_eq_true_eq, decide_eq_false_iff_not, Bool.and_eq_true, Bool.or_eq_true, Bool.not_eq_true', Bool.not_eq_false', Bool.or_eq_false_iff, Bool.and_eq_false_iff] at hc2) <;> try omega) | (refine onSt_if (by omega) ?_) | (split <;> try omega) | omega)
  · obtain ⟨n, rfl⟩ := Int.eq_ofNat_of_zero_le (show 0 ≤ n by omega)
    have k1 : ¬ (n : Int) < 1 := by omega
    have k2 : ¬ (7 : Int) < n := by omega
    have k3 : ¬ v < 0 := by omega
    have hs : shrI .i64 v (8 * (n : Int)) = v / 256 ^ n := by
      have := shr_div (v := v) (k := 8 * n) (by omega)
      rw [pow256]
      simpa using this
    have hp : (0 : Int) < 256 ^ n := Int.pow_pos (by decide)
    by_cases h2 : v < 256 ^ n
    · have hE : putOk v n = true := by simp only [putOk, decide_eq_true_eq, Int.toNat_natCast]; omega
      have hd : v / 256 ^ n = 0 := Int.ediv_eq_zero_of_lt (by omega) h2
      rw [hE]
      rw [hd] at hs
      simp (config := sc) (disch := try exact dd) [std, k1, k2, k3, hs]
      rw [o_mk (n := n) (z := .int .u8 0) (by simp) (by simp; omega)]
      simp (config := sc) (disch := try exact dd) [std, k1, k2, k3, hs]
      refine lp (cpJ v n FO 1) (fun i => n - i) 0 ⟨by omega, by simp (config := sc) (disch := try exact dd) [std, putJ, putI]⟩ ?_
      rintro i S ⟨hi, e0, e1, e27, e28, e6, efo, eg, eb⟩
      by_cases hlt : i < n
      · have k6 : (i : Int) < n := by omega
        have hsi : shrI .i64 v (8 * (i : Int)) = v / 256 ^ i := by
          have := shr_div (v := v) (k := 8 * i) (by omega)
          rw [pow256]
          simpa using this
        have hj : (((n : Int) - 1 - i).toNat) = n - 1 - i := by omega
        have hl := putJ_len v (Nat.le_of_lt hlt)
        have hlb : (S.box (FO + 26)).length = n := by rw [eb]; exact hl
        have hst := putJ_step v hlt
        simp (config := sc) (disch := try exact dd) [std, e0, e1, e27, e28, e6, efo, eg, eb, k6, hsi, hl, hj, u8_wrapB]
        exact nxt_of (i + 1) ⟨by omega, by simp (config := sc) (disch := try exact dd) [*, std, hst]⟩ (by omega)
      · have : i = n := by omega
        subst this
        have hc : putJ v i i = ((putI v i).map byteD).map .d := by simp [putJ]
        have hi0 : 0 < i := by omega
        simp (config := sc) (disch := try exact dd) [std, e0, e1, e27, e28, e6, efo, eg, eb, hc, hi0, List.take_of_length_le]
    · have hE : putOk v n = false := by simp only [putOk, decide_eq_false_iff_not, Int.toNat_natCast]; omega
      have hd : ¬ v / 256 ^ n = 0 := by
        intro h
        have h3 := Int.emod_add_mul_ediv v (256 ^ n)
        have h4 := Int.emod_lt_of_pos v hp
        rw [h] at h3
        simp at h3
        omega
      rw [hE]
      simp (config := sc) (disch := try exact dd) [std, k1, k2, k3, hs, hd]
theorem putI_nat : ∀ (n v : Nat), putI (v : Int) n = putB v n
  | 0, v => rfl
  | n + 1, v => by
    have h1 : (v : Int) / 256 = ((v / 256 : Nat) : Int) := by omega
    have h2 : ((v : Int) % 256).toNat = v % 256 := by omega
    rw [putI, putB, h1, putI_nat n (v / 256), lowB, h2]

end Go.Proofs.YtimlalndjfmnbaaDoor
