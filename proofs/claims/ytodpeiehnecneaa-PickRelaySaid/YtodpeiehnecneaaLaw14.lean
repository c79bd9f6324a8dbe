/- The five laws of chapter 14: each answers true for every input. -/
import Derived.Test.YtodpeiehnecneaaPick
import Derived.Test.YtodpeiehnecneaaGreat
import Derived.Test.YtodpeiehnecneaaMsgT
import Derived.Test.YtodpeiehnecneaaCfgT
namespace Go.Proofs.Ytodpeiehnecneaa
open BoEng Go
set_option maxRecDepth 100000
set_option linter.unusedSimpArgs false
set_option linter.unusedVariables false

def mK : Msg := ⟨0, 0, 0, 0, 0, 0, 0, 0, 0, 0, 167772161, [0, 0, 0, 0, 0, 0, 0, 0, 0, 0, 0, 0, 0, 0, 0, 0], []⟩
def mK0 : Msg := ⟨0, 0, 0, 0, 0, 0, 0, 0, 0, 0, 0, [0, 0, 0, 0, 0, 0, 0, 0, 0, 0, 0, 0, 0, 0, 0, 0], []⟩
def spotK : Spot := ⟨0, 0, ⟨167772160, 24, [⟨167772170, 167772180⟩], [⟨[105, 48, 49], 167772165⟩], 1, 167772161, 600⟩⟩
theorem sub1 : subnetS plainC mK 9 = some spotK := by kernel_rfl
theorem sub2 : subnetS plainC mK0 1 = some spotK := by kernel_rfl
theorem sub3 : subnetS plainC mK0 9 = none := by kernel_rfl
theorem pla1 : placeS mK = some 167772161 := by kernel_rfl
theorem mK_sized : sizedM mK := ⟨by decide, by decide, by simp [mK]⟩
theorem mK0_sized : sizedM mK0 := ⟨by decide, by decide, by simp [mK0]⟩

theorem knows : Holds Try.prog 9 [] (.d (.bool true)) (fun _ => false) := by
  refine Holds.by (by kernel_rfl) Try.func9 (by kernel_rfl) rfl [20013] (by simp) (by kernel_rfl) (by kernel_rfl) rfl ?_
  conv in ccs _ => cbv
  have q1 := pickSubnet plainC mK 9 plain_sized mK_sized
  have q2 := pickSubnet plainC mK0 1 plain_sized mK0_sized
  have q3 := pickSubnet plainC mK0 9 plain_sized mK0_sized
  have q4 := pickPlace mK mK_sized
  rw [sub1, foundD_s] at q1
  rw [sub2, foundD_s] at q2
  rw [sub3, foundD_n] at q3
  rw [pla1, optA_s] at q4
  simp -implicitDefEqProofs (disch := first | omega | (simp -implicitDefEqProofs; done) | fail) [-List.map_take, -List.map_drop, map_take', map_drop', wrap_in, nth_nat, opt_if, dec_t, dec_f]
  rw [o_mkF (n := 16) (z := .int .u8 0) (by simp) (by simp)]
  simp -implicitDefEqProofs (disch := first | omega | (simp -implicitDefEqProofs; done) | fail) [-List.map_take, -List.map_drop, map_take', map_drop', wrap_in, nth_nat, opt_if, dec_t, dec_f]
  refine o_call rfl rfl plain13 rfl rfl ?_
  simp -implicitDefEqProofs (disch := first | omega | (simp -implicitDefEqProofs; done) | fail) [-List.map_take, -List.map_drop, map_take', map_drop', wrap_in, nth_nat, opt_if, dec_t, dec_f, plainC]
  refine o_call rfl rfl q1 rfl rfl ?_
  simp -implicitDefEqProofs (disch := first | omega | (simp -implicitDefEqProofs; done) | fail) [-List.map_take, -List.map_drop, map_take', map_drop', wrap_in, nth_nat, opt_if, dec_t, dec_f]
  refine o_call rfl rfl q4 rfl rfl ?_
  simp -implicitDefEqProofs (disch := first | omega | (simp -implicitDefEqProofs; done) | fail) [-List.map_take, -List.map_drop, map_take', map_drop', wrap_in, nth_nat, opt_if, dec_t, dec_f]
  refine o_call rfl rfl plain13 rfl rfl ?_
  simp -implicitDefEqProofs (disch := first | omega | (simp -implicitDefEqProofs; done) | fail) [-List.map_take, -List.map_drop, map_take', map_drop', wrap_in, nth_nat, opt_if, dec_t, dec_f, plainC]
  refine o_call rfl rfl q2 rfl rfl ?_
  simp -implicitDefEqProofs (disch := first | omega | (simp -implicitDefEqProofs; done) | fail) [-List.map_take, -List.map_drop, map_take', map_drop', wrap_in, nth_nat, opt_if, dec_t, dec_f]
  refine o_call rfl rfl plain13 rfl rfl ?_
  simp -implicitDefEqProofs (disch := first | omega | (simp -implicitDefEqProofs; done) | fail) [-List.map_take, -List.map_drop, map_take', map_drop', wrap_in, nth_nat, opt_if, dec_t, dec_f, plainC]
  refine o_call rfl rfl q3 rfl rfl ?_
  simp -implicitDefEqProofs (disch := first | omega | (simp -implicitDefEqProofs; done) | fail) [-List.map_take, -List.map_drop, map_take', map_drop', wrap_in, nth_nat, opt_if, dec_t, dec_f, spotK]

theorem maxLen_le : maxLen ≤ 9223372036854775807 := by decide

theorem lawPlaces (m : Msg) (hok : MsgOk m) : Holds Try.prog 3 [.d m.d] (.d (.bool true)) (fun _ => false) := by
  refine Holds.by (by kernel_rfl) Try.func3 (by kernel_rfl) rfl [20001] (by simp) (by kernel_rfl) (by kernel_rfl) rfl ?_
  conv in ccs _ => cbv
  have hg := great04 m (Nat.le_trans hok.2.2.1 maxLen_le)
  cases h : smallM m with
  | false =>
    rw [h] at hg
    simp -implicitDefEqProofs (disch := first | omega | (simp -implicitDefEqProofs; done) | fail) [-List.map_take, -List.map_drop, map_take', map_drop', wrap_in, nth_nat, opt_if, dec_t, dec_f]
    refine o_call rfl rfl hg rfl rfl ?_
    simp -implicitDefEqProofs (disch := first | omega | (simp -implicitDefEqProofs; done) | fail) [-List.map_take, -List.map_drop, map_take', map_drop', wrap_in, nth_nat, opt_if, dec_t, dec_f]
    refine o_call rfl rfl knows rfl rfl ?_
    simp -implicitDefEqProofs (disch := first | omega | (simp -implicitDefEqProofs; done) | fail) [-List.map_take, -List.map_drop, map_take', map_drop', wrap_in, nth_nat, opt_if, dec_t, dec_f]
  | true =>
    rw [h] at hg
    have hm := small_sized h
    have q1 := pickPlace m hm
    have q2 := ref14Place m hm
    have q3 := lawAs m
    cases h2 : placeS m with
    | none =>
      rw [h2] at q1 q2
      repeat' (first | (simp -implicitDefEqProofs (disch := first | omega | (simp -implicitDefEqProofs; done) | fail) [*, -List.map_take, -List.map_drop, map_take', map_drop', wrap_in, nth_nat, opt_if, dec_t, dec_f]) | (refine o_call rfl rfl (hg) rfl rfl ?_) | (refine o_call rfl rfl (q1) rfl rfl ?_) | (refine o_call rfl rfl (q2) rfl rfl ?_) | (refine o_call rfl rfl (q3) rfl rfl ?_) | (refine o_call rfl rfl (knows) rfl rfl ?_) | (refine sel_by ?_ ?_ <;> intro hc <;> have hc2 := hc <;> (try simp only [decide_eq_true_eq, decide_eq_false_iff_not, Bool.and_eq_true, Bool.or_eq_true, Bool.not_eq_true', Bool.not_eq_false', Bool.or_eq_false_iff, Bool.and_eq_false_iff] at hc2) <;> try omega) | (refine cnd_by ?_ ?_ <;> intro hc <;> have hc2 := hc <;> (try simp only [decide_eq_true_eq, decide_eq_false_iff_not, Bool.and_eq_true, Bool.or_eq_true, Bool.not_eq_true', Bool.not_eq_false', Bool.or_eq_false_iff, Bool.and_eq_false_iff] at hc2) <;> try omega) | (refine onSt_if (by omega) ?_) | (split <;> try omega) | omega)
    | some a =>
      rw [h2] at q1 q2
      repeat' (first | (simp -implicitDefEqProofs (disch := first | omega | (simp -implicitDefEqProofs; done) | fail) [*, -List.map_take, -List.map_drop, map_take', map_drop', wrap_in, nth_nat, opt_if, dec_t, dec_f]) | (refine o_call rfl rfl (hg) rfl rfl ?_) | (refine o_call rfl rfl (q1) rfl rfl ?_) | (refine o_call rfl rfl (q2) rfl rfl ?_) | (refine o_call rfl rfl (q3) rfl rfl ?_) | (refine o_call rfl rfl (knows) rfl rfl ?_) | (refine sel_by ?_ ?_ <;> intro hc <;> have hc2 := hc <;> (try simp only [decide_eq_true_eq, decide_eq_false_iff_not, Bool.and_eq_true, Bool.or_eq_true, Bool.not_eq_true', Bool.not_eq_false', Bool.or_eq_false_iff, Bool.and_eq_false_iff] at hc2) <;> try omega) | (refine cnd_by ?_ ?_ <;> intro hc <;> have hc2 := hc <;> (try simp only [decide_eq_true_eq, decide_eq_false_iff_not, Bool.and_eq_true, Bool.or_eq_true, Bool.not_eq_true', Bool.not_eq_false', Bool.or_eq_false_iff, Bool.and_eq_false_iff] at hc2) <;> try omega) | (refine onSt_if (by omega) ?_) | (split <;> try omega) | omega)

/-- Two that are not too great, or the rest is said of the examples. -/
theorem lawSubnets (c : Cfg) (m : Msg) (w : Int) (hok : MsgOk m) : Holds Try.prog 4 [.d c.d, .d m.d, .d (.int .i64 w)] (.d (.bool true)) (fun _ => false) := by
  refine Holds.by (by kernel_rfl) Try.func4 (by kernel_rfl) rfl [20003, 20004] (by simp) (by kernel_rfl) (by kernel_rfl) rfl ?_
  conv in ccs _ => cbv
  have hg := great04 m (Nat.le_trans hok.2.2.1 maxLen_le)
  have hg2 := great13 c
  cases h : smallM m with
  | false =>
    rw [h] at hg
    repeat' (first | (simp -implicitDefEqProofs (disch := first | omega | (simp -implicitDefEqProofs; done) | fail) [*, -List.map_take, -List.map_drop, map_take', map_drop', wrap_in, nth_nat, opt_if, dec_t, dec_f]) | (refine o_call rfl rfl (hg) rfl rfl ?_) | (refine o_call rfl rfl (hg2) rfl rfl ?_) | (refine o_call rfl rfl (knows) rfl rfl ?_) | (refine sel_by ?_ ?_ <;> intro hc <;> have hc2 := hc <;> (try simp only [decide_eq_true_eq, decide_eq_false_iff_not, Bool.and_eq_true, Bool.or_eq_true, Bool.not_eq_true', Bool.not_eq_false', Bool.or_eq_false_iff, Bool.and_eq_false_iff] at hc2) <;> try omega) | (refine cnd_by ?_ ?_ <;> intro hc <;> have hc2 := hc <;> (try simp only [decide_eq_true_eq, decide_eq_false_iff_not, Bool.and_eq_true, Bool.or_eq_true, Bool.not_eq_true', Bool.not_eq_false', Bool.or_eq_false_iff, Bool.and_eq_false_iff] at hc2) <;> try omega) | (refine onSt_if (by omega) ?_) | (split <;> try omega) | omega)
  | true =>
    cases h2 : smallC c with
    | false =>
      rw [h] at hg
      rw [h2] at hg2
      repeat' (first | (simp -implicitDefEqProofs (disch := first | omega | (simp -implicitDefEqProofs; done) | fail) [*, -List.map_take, -List.map_drop, map_take', map_drop', wrap_in, nth_nat, opt_if, dec_t, dec_f]) | (refine o_call rfl rfl (hg) rfl rfl ?_) | (refine o_call rfl rfl (hg2) rfl rfl ?_) | (refine o_call rfl rfl (knows) rfl rfl ?_) | (refine sel_by ?_ ?_ <;> intro hc <;> have hc2 := hc <;> (try simp only [decide_eq_true_eq, decide_eq_false_iff_not, Bool.and_eq_true, Bool.or_eq_true, Bool.not_eq_true', Bool.not_eq_false', Bool.or_eq_false_iff, Bool.and_eq_false_iff] at hc2) <;> try omega) | (refine cnd_by ?_ ?_ <;> intro hc <;> have hc2 := hc <;> (try simp only [decide_eq_true_eq, decide_eq_false_iff_not, Bool.and_eq_true, Bool.or_eq_true, Bool.not_eq_true', Bool.not_eq_false', Bool.or_eq_false_iff, Bool.and_eq_false_iff] at hc2) <;> try omega) | (refine onSt_if (by omega) ?_) | (split <;> try omega) | omega)
    | true =>
      rw [h] at hg
      rw [h2] at hg2
      have hm := small_sized h
      have hc := smallC_sized h2
      have q1 := pickSubnet c m w hc hm
      have q2 := ref14Subnet c m w hc hm
      have q3 := lawAs m
      cases h3 : subnetS c m w with
      | none =>
        rw [h3, foundD_n] at q1 q2
        repeat' (first | (simp -implicitDefEqProofs (disch := first | omega | (simp -implicitDefEqProofs; done) | fail) [*, -List.map_take, -List.map_drop, map_take', map_drop', wrap_in, nth_nat, opt_if, dec_t, dec_f]) | (refine o_call rfl rfl (hg) rfl rfl ?_) | (refine o_call rfl rfl (hg2) rfl rfl ?_) | (refine o_call rfl rfl (q1) rfl rfl ?_) | (refine o_call rfl rfl (q2) rfl rfl ?_) | (refine o_call rfl rfl (q3) rfl rfl ?_) | (refine o_call rfl rfl (knows) rfl rfl ?_) | (refine sel_by ?_ ?_ <;> intro hc <;> have hc2 := hc <;> (try simp only [decide_eq_true_eq, decide_eq_false_iff_not, Bool.and_eq_true, Bool.or_eq_true, Bool.not_eq_true', Bool.not_eq_false', Bool.or_eq_false_iff, Bool.and_eq_false_iff] at hc2) <;> try omega) | (refine cnd_by ?_ ?_ <;> intro hc <;> have hc2 := hc <;> (try simp only [decide_eq_true_eq, decide_eq_false_iff_not, Bool.and_eq_true, Bool.or_eq_true, Bool.not_eq_true', Bool.not_eq_false', Bool.or_eq_false_iff, Bool.and_eq_false_iff] at hc2) <;> try omega) | (refine onSt_if (by omega) ?_) | (split <;> try omega) | omega)
      | some x =>
        rw [h3, foundD_s] at q1 q2
        repeat' (first | (simp -implicitDefEqProofs (disch := first | omega | (simp -implicitDefEqProofs; done) | fail) [*, -List.map_take, -List.map_drop, map_take', map_drop', wrap_in, nth_nat, opt_if, dec_t, dec_f]) | (refine o_call rfl rfl (hg) rfl rfl ?_) | (refine o_call rfl rfl (hg2) rfl rfl ?_) | (refine o_call rfl rfl (q1) rfl rfl ?_) | (refine o_call rfl rfl (q2) rfl rfl ?_) | (refine o_call rfl rfl (q3) rfl rfl ?_) | (refine o_call rfl rfl (knows) rfl rfl ?_) | (refine sel_by ?_ ?_ <;> intro hc <;> have hc2 := hc <;> (try simp only [decide_eq_true_eq, decide_eq_false_iff_not, Bool.and_eq_true, Bool.or_eq_true, Bool.not_eq_true', Bool.not_eq_false', Bool.or_eq_false_iff, Bool.and_eq_false_iff] at hc2) <;> try omega) | (refine cnd_by ?_ ?_ <;> intro hc <;> have hc2 := hc <;> (try simp only [decide_eq_true_eq, decide_eq_false_iff_not, Bool.and_eq_true, Bool.or_eq_true, Bool.not_eq_true', Bool.not_eq_false', Bool.or_eq_false_iff, Bool.and_eq_false_iff] at hc2) <;> try omega) | (refine onSt_if (by omega) ?_) | (split <;> try omega) | omega)

theorem u8_mod (n : Int) : IntKind.u8.wrap n = ((UInt8.ofNat (n % 256).toNat).toNat : Nat) := by
  have h : IntKind.u8.wrap n = n % 256 := by
    unfold IntKind.wrap
    simp [IntKind.bits, IntKind.signed]
  rw [h]
  have h2 : ((n % 256).toNat) < 256 := by omega
  simp only [UInt8.toNat_ofNat']
  omega
/-- An address in four bytes. -/
def fourB (a : Int) : List UInt8 := [UInt8.ofNat (a / 16777216 % 256).toNat, UInt8.ofNat (a / 65536 % 256).toNat, UInt8.ofNat (a / 256 % 256).toNat, UInt8.ofNat (a % 256).toNat]
theorem fourB_val {a : Int} (h : 0 ≤ a ∧ a ≤ 4294967295) : valB (fourB a) = a := by
  have e : ∀ n : Int, ((UInt8.ofNat (n % 256).toNat).toNat : Int) = n % 256 := by
    intro n
    have h2 : ((n % 256).toNat) < 256 := by omega
    simp only [UInt8.toNat_ofNat']
    omega
  simp only [fourB, valB, List.foldl_cons, List.foldl_nil, e]
  omega
theorem shr_at {a : Int} (h : 0 ≤ a) (k : Nat) (hk : k ≤ 32) : shrI .i64 a (k : Int) = a / 2 ^ k := by
  unfold shrI
  have : min ((k : Int).toNat) IntKind.i64.bits = k := by
    have : IntKind.i64.bits = 64 := rfl
    omega
  rw [this, Int.fdiv_eq_ediv_of_nonneg]
  exact Int.le_of_lt (Int.pow_pos (by decide))
/-- What a relay tells in the law's option. -/
def relB (a : Int) : List UInt8 := [1, 1, 7, 5, 4] ++ fourB a
theorem relB_link {a : Int} (h : 0 ≤ a ∧ a ≤ 4294967295) : linkS (relB a) = some a := by
  have hp : partsS (relB a) = some [⟨1, [7]⟩, ⟨5, fourB a⟩] := rfl
  have hv : partsV (relB a) = [⟨1, [7]⟩, ⟨5, fourB a⟩] := by
    unfold partsV
    rw [if_neg (by simp [relB, fourB]), hp]
    rfl
  unfold linkS
  rw [hv]
  have : valB (fourB a) = a := fourB_val h
  simp [fourB] at this ⊢
  exact this

theorem lawRelay (c : Cfg) (m : Msg) (a w : Int) (hok : MsgOk m) : Holds Try.prog 5 [.d c.d, .d m.d, .d (.int .i64 a), .d (.int .i64 w)] (.d (.bool true)) (fun _ => false) := by
  refine Holds.by (by kernel_rfl) Try.func5 (by kernel_rfl) rfl [20004] (by simp) (by kernel_rfl) (by kernel_rfl) rfl ?_
  conv in ccs _ => cbv
  have hg := great04 m (Nat.le_trans hok.2.2.1 maxLen_le)
  have hg2 := great13 c
  have hg3 := ref01Right a
  cases h : smallM m with
  | false =>
    rw [h] at hg
    repeat' (first | (simp -implicitDefEqProofs (disch := first | omega | (simp -implicitDefEqProofs; done) | fail) [*, -List.map_take, -List.map_drop, map_take', map_drop', wrap_in, nth_nat, opt_if, dec_t, dec_f]) | (refine o_call rfl rfl (hg) rfl rfl ?_) | (refine o_call rfl rfl (hg2) rfl rfl ?_) | (refine o_call rfl rfl (hg3) rfl rfl ?_) | (refine o_call rfl rfl (knows) rfl rfl ?_) | (refine sel_by ?_ ?_ <;> intro hc <;> have hc2 := hc <;> (try simp only [decide_eq_true_eq, decide_eq_false_iff_not, Bool.and_eq_true, Bool.or_eq_true, Bool.not_eq_true', Bool.not_eq_false', Bool.or_eq_false_iff, Bool.and_eq_false_iff] at hc2) <;> try omega) | (refine cnd_by ?_ ?_ <;> intro hc <;> have hc2 := hc <;> (try simp only [decide_eq_true_eq, decide_eq_false_iff_not, Bool.and_eq_true, Bool.or_eq_true, Bool.not_eq_true', Bool.not_eq_false', Bool.or_eq_false_iff, Bool.and_eq_false_iff] at hc2) <;> try omega) | (refine onSt_if (by omega) ?_) | (split <;> try omega) | omega)
  | true =>
    cases h2 : smallC c with
    | false =>
      rw [h] at hg
      rw [h2] at hg2
      repeat' (first | (simp -implicitDefEqProofs (disch := first | omega | (simp -implicitDefEqProofs; done) | fail) [*, -List.map_take, -List.map_drop, map_take', map_drop', wrap_in, nth_nat, opt_if, dec_t, dec_f]) | (refine o_call rfl rfl (hg) rfl rfl ?_) | (refine o_call rfl rfl (hg2) rfl rfl ?_) | (refine o_call rfl rfl (hg3) rfl rfl ?_) | (refine o_call rfl rfl (knows) rfl rfl ?_) | (refine sel_by ?_ ?_ <;> intro hc <;> have hc2 := hc <;> (try simp only [decide_eq_true_eq, decide_eq_false_iff_not, Bool.and_eq_true, Bool.or_eq_true, Bool.not_eq_true', Bool.not_eq_false', Bool.or_eq_false_iff, Bool.and_eq_false_iff] at hc2) <;> try omega) | (refine cnd_by ?_ ?_ <;> intro hc <;> have hc2 := hc <;> (try simp only [decide_eq_true_eq, decide_eq_false_iff_not, Bool.and_eq_true, Bool.or_eq_true, Bool.not_eq_true', Bool.not_eq_false', Bool.or_eq_false_iff, Bool.and_eq_false_iff] at hc2) <;> try omega) | (refine onSt_if (by omega) ?_) | (split <;> try omega) | omega)
    | true =>
      cases h3 : rightA a with
      | false =>
        rw [h] at hg
        rw [h2] at hg2
        rw [h3] at hg3
        repeat' (first | (simp -implicitDefEqProofs (disch := first | omega | (simp -implicitDefEqProofs; done) | fail) [*, -List.map_take, -List.map_drop, map_take', map_drop', wrap_in, nth_nat, opt_if, dec_t, dec_f]) | (refine o_call rfl rfl (hg) rfl rfl ?_) | (refine o_call rfl rfl (hg2) rfl rfl ?_) | (refine o_call rfl rfl (hg3) rfl rfl ?_) | (refine o_call rfl rfl (knows) rfl rfl ?_) | (refine sel_by ?_ ?_ <;> intro hc <;> have hc2 := hc <;> (try simp only [decide_eq_true_eq, decide_eq_false_iff_not, Bool.and_eq_true, Bool.or_eq_true, Bool.not_eq_true', Bool.not_eq_false', Bool.or_eq_false_iff, Bool.and_eq_false_iff] at hc2) <;> try omega) | (refine cnd_by ?_ ?_ <;> intro hc <;> have hc2 := hc <;> (try simp only [decide_eq_true_eq, decide_eq_false_iff_not, Bool.and_eq_true, Bool.or_eq_true, Bool.not_eq_true', Bool.not_eq_false', Bool.or_eq_false_iff, Bool.and_eq_false_iff] at hc2) <;> try omega) | (refine onSt_if (by omega) ?_) | (split <;> try omega) | omega)
      | true =>
        rw [h] at hg
        rw [h2] at hg2
        rw [h3] at hg3
        have ha := rightA_iff.1 h3
        have hm := small_sized h
        have hc := smallC_sized h2
        have s24 : shrI .i64 a 24 = a / 16777216 := by simpa using shr_at ha.1 24 (by omega)
        have s16 : shrI .i64 a 16 = a / 65536 := by simpa using shr_at ha.1 16 (by omega)
        have s8 : shrI .i64 a 8 = a / 256 := by simpa using shr_at ha.1 8 (by omega)
        have b3 := u8_mod (a / 16777216)
        have b2 := u8_mod (a / 65536)
        have b1 := u8_mod (a / 256)
        have b0 := u8_mod a
        obtain ⟨M, hM⟩ : ∃ M : Msg, M = { m with opts := [⟨82, relB a⟩] } := ⟨_, rfl⟩
        have hMs : sizedM M := by
          rw [hM]
          exact ⟨hm.1, by simp, by simp [relB, fourB]⟩
        have hMd : M.d = .agg [.int .i64 m.op, .int .i64 m.htype, .int .i64 m.hlen, .int .i64 m.hops, .int .i64 m.xid, .int .i64 m.secs, .int .i64 m.flags, .int .i64 m.ci, .int .i64 m.yi, .int .i64 m.si, .int .i64 m.gi,
            .slice (m.chaddr.map byteD), .slice [.agg [.int .i64 82, .slice [.int .u8 1, .int .u8 1, .int .u8 7, .int .u8 5, .int .u8 4, .int .u8 (UInt8.ofNat (a / 16777216 % 256).toNat).toNat, .int .u8 (UInt8.ofNat (a / 65536 % 256).toNat).toNat, .int .u8 (UInt8.ofNat (a / 256 % 256).toNat).toNat, .int .u8 (UInt8.ofNat (a % 256).toNat).toNat]]]] := by
          rw [hM]; rfl
        have hpl : placeS M = some a := by
          rw [hM]
          have : findS [⟨82, relB a⟩] 82 = some (relB a) := rfl
          simp only [placeS, this, Option.bind_some, relB_link ha]
        have q1 := pickSubnet c M w hc hMs
        have q2 := ref04Right M hMs
        have q3 := lawAs M
        have q4 := confFind c a hc
        have q5 := ref13Find c a hc
        have hsub : rightM M = true → subnetS c M w = findC c a := fun hr => by simp [subnetS, hr, hpl]
        rw [hMd] at q1 q2 q3
        clear hM hMd
        generalize UInt8.ofNat (a / 16777216 % 256).toNat = x3 at b3 q1 q2 q3
        generalize UInt8.ofNat (a / 65536 % 256).toNat = x2 at b2 q1 q2 q3
        generalize UInt8.ofNat (a / 256 % 256).toNat = x1 at b1 q1 q2 q3
        generalize UInt8.ofNat (a % 256).toNat = x0 at b0 q1 q2 q3
        simp -implicitDefEqProofs (disch := first | omega | (simp -implicitDefEqProofs; done) | fail) [-List.map_take, -List.map_drop, map_take', map_drop', wrap_in, nth_nat, opt_if, dec_t, dec_f]
        refine o_call rfl rfl hg rfl rfl ?_
        simp -implicitDefEqProofs (disch := first | omega | (simp -implicitDefEqProofs; done) | fail) [-List.map_take, -List.map_drop, map_take', map_drop', wrap_in, nth_nat, opt_if, dec_t, dec_f]
        refine o_call rfl rfl hg2 rfl rfl ?_
        simp -implicitDefEqProofs (disch := first | omega | (simp -implicitDefEqProofs; done) | fail) [-List.map_take, -List.map_drop, map_take', map_drop', wrap_in, nth_nat, opt_if, dec_t, dec_f]
        refine o_call rfl rfl hg3 rfl rfl ?_
        simp -implicitDefEqProofs (disch := first | omega | (simp -implicitDefEqProofs; done) | fail) [-List.map_take, -List.map_drop, map_take', map_drop', wrap_in, nth_nat, opt_if, dec_t, dec_f, s24, s16, s8, b3, b2, b1, b0]
        refine o_call rfl rfl q3 rfl rfl ?_
        simp -implicitDefEqProofs (disch := first | omega | (simp -implicitDefEqProofs; done) | fail) [-List.map_take, -List.map_drop, map_take', map_drop', wrap_in, nth_nat, opt_if, dec_t, dec_f]
        refine o_call rfl rfl q2 rfl rfl ?_
        cases hr : rightM M with
        | false =>
          repeat' (first | (simp -implicitDefEqProofs (disch := first | omega | (simp -implicitDefEqProofs; done) | fail) [*, -List.map_take, -List.map_drop, map_take', map_drop', wrap_in, nth_nat, opt_if, dec_t, dec_f]) | (refine o_call rfl rfl (knows) rfl rfl ?_) | (refine sel_by ?_ ?_ <;> intro hc <;> have hc2 := hc <;> (try simp only [decide_eq_true_eq, decide_eq_false_iff_not, Bool.and_eq_true, Bool.or_eq_true, Bool.not_eq_true', Bool.not_eq_false', Bool.or_eq_false_iff, Bool.and_eq_false_iff] at hc2) <;> try omega) | (refine cnd_by ?_ ?_ <;> intro hc <;> have hc2 := hc <;> (try simp only [decide_eq_true_eq, decide_eq_false_iff_not, Bool.and_eq_true, Bool.or_eq_true, Bool.not_eq_true', Bool.not_eq_false', Bool.or_eq_false_iff, Bool.and_eq_false_iff] at hc2) <;> try omega) | (refine onSt_if (by omega) ?_) | (split <;> try omega) | omega)
        | true =>
          rw [hsub hr] at q1
          cases h4 : findC c a with
          | none =>
            rw [h4, foundD_n] at q1 q4 q5
            simp -implicitDefEqProofs (disch := first | omega | (simp -implicitDefEqProofs; done) | fail) [-List.map_take, -List.map_drop, map_take', map_drop', wrap_in, nth_nat, opt_if, dec_t, dec_f]
            refine o_call rfl rfl q1 rfl rfl ?_
            repeat' (first | (simp -implicitDefEqProofs (disch := first | omega | (simp -implicitDefEqProofs; done) | fail) [*, -List.map_take, -List.map_drop, map_take', map_drop', wrap_in, nth_nat, opt_if, dec_t, dec_f]) | (refine o_call rfl rfl (q4) rfl rfl ?_) | (refine o_call rfl rfl (q5) rfl rfl ?_) | (refine o_call rfl rfl (knows) rfl rfl ?_) | (refine sel_by ?_ ?_ <;> intro hc <;> have hc2 := hc <;> (try simp only [decide_eq_true_eq, decide_eq_false_iff_not, Bool.and_eq_true, Bool.or_eq_true, Bool.not_eq_true', Bool.not_eq_false', Bool.or_eq_false_iff, Bool.and_eq_false_iff] at hc2) <;> try omega) | (refine cnd_by ?_ ?_ <;> intro hc <;> have hc2 := hc <;> (try simp only [decide_eq_true_eq, decide_eq_false_iff_not, Bool.and_eq_true, Bool.or_eq_true, Bool.not_eq_true', Bool.not_eq_false', Bool.or_eq_false_iff, Bool.and_eq_false_iff] at hc2) <;> try omega) | (refine onSt_if (by omega) ?_) | (split <;> try omega) | omega)
          | some x =>
            rw [h4, foundD_s] at q1 q4 q5
            simp -implicitDefEqProofs (disch := first | omega | (simp -implicitDefEqProofs; done) | fail) [-List.map_take, -List.map_drop, map_take', map_drop', wrap_in, nth_nat, opt_if, dec_t, dec_f]
            refine o_call rfl rfl q1 rfl rfl ?_
            repeat' (first | (simp -implicitDefEqProofs (disch := first | omega | (simp -implicitDefEqProofs; done) | fail) [*, -List.map_take, -List.map_drop, map_take', map_drop', wrap_in, nth_nat, opt_if, dec_t, dec_f]) | (refine o_call rfl rfl (q4) rfl rfl ?_) | (refine o_call rfl rfl (q5) rfl rfl ?_) | (refine o_call rfl rfl (knows) rfl rfl ?_) | (refine sel_by ?_ ?_ <;> intro hc <;> have hc2 := hc <;> (try simp only [decide_eq_true_eq, decide_eq_false_iff_not, Bool.and_eq_true, Bool.or_eq_true, Bool.not_eq_true', Bool.not_eq_false', Bool.or_eq_false_iff, Bool.and_eq_false_iff] at hc2) <;> try omega) | (refine cnd_by ?_ ?_ <;> intro hc <;> have hc2 := hc <;> (try simp only [decide_eq_true_eq, decide_eq_false_iff_not, Bool.and_eq_true, Bool.or_eq_true, Bool.not_eq_true', Bool.not_eq_false', Bool.or_eq_false_iff, Bool.and_eq_false_iff] at hc2) <;> try omega) | (refine onSt_if (by omega) ?_) | (split <;> try omega) | omega)

theorem lawWire (c : Cfg) (m : Msg) (w : Int) (hok : MsgOk m) : Holds Try.prog 6 [.d c.d, .d m.d, .d (.int .i64 w)] (.d (.bool true)) (fun _ => false) := by
  refine Holds.by (by kernel_rfl) Try.func6 (by kernel_rfl) rfl [20003] (by simp) (by kernel_rfl) (by kernel_rfl) rfl ?_
  conv in ccs _ => cbv
  have hg := great04 m (Nat.le_trans hok.2.2.1 maxLen_le)
  have hg2 := great13 c
  cases h : smallM m with
  | false =>
    rw [h] at hg
    repeat' (first | (simp -implicitDefEqProofs (disch := first | omega | (simp -implicitDefEqProofs; done) | fail) [*, -List.map_take, -List.map_drop, map_take', map_drop', wrap_in, nth_nat, opt_if, dec_t, dec_f]) | (refine o_call rfl rfl (hg) rfl rfl ?_) | (refine o_call rfl rfl (hg2) rfl rfl ?_) | (refine o_call rfl rfl (knows) rfl rfl ?_) | (refine sel_by ?_ ?_ <;> intro hc <;> have hc2 := hc <;> (try simp only [decide_eq_true_eq, decide_eq_false_iff_not, Bool.and_eq_true, Bool.or_eq_true, Bool.not_eq_true', Bool.not_eq_false', Bool.or_eq_false_iff, Bool.and_eq_false_iff] at hc2) <;> try omega) | (refine cnd_by ?_ ?_ <;> intro hc <;> have hc2 := hc <;> (try simp only [decide_eq_true_eq, decide_eq_false_iff_not, Bool.and_eq_true, Bool.or_eq_true, Bool.not_eq_true', Bool.not_eq_false', Bool.or_eq_false_iff, Bool.and_eq_false_iff] at hc2) <;> try omega) | (refine onSt_if (by omega) ?_) | (split <;> try omega) | omega)
  | true =>
    cases h2 : smallC c with
    | false =>
      rw [h] at hg
      rw [h2] at hg2
      repeat' (first | (simp -implicitDefEqProofs (disch := first | omega | (simp -implicitDefEqProofs; done) | fail) [*, -List.map_take, -List.map_drop, map_take', map_drop', wrap_in, nth_nat, opt_if, dec_t, dec_f]) | (refine o_call rfl rfl (hg) rfl rfl ?_) | (refine o_call rfl rfl (hg2) rfl rfl ?_) | (refine o_call rfl rfl (knows) rfl rfl ?_) | (refine sel_by ?_ ?_ <;> intro hc <;> have hc2 := hc <;> (try simp only [decide_eq_true_eq, decide_eq_false_iff_not, Bool.and_eq_true, Bool.or_eq_true, Bool.not_eq_true', Bool.not_eq_false', Bool.or_eq_false_iff, Bool.and_eq_false_iff] at hc2) <;> try omega) | (refine cnd_by ?_ ?_ <;> intro hc <;> have hc2 := hc <;> (try simp only [decide_eq_true_eq, decide_eq_false_iff_not, Bool.and_eq_true, Bool.or_eq_true, Bool.not_eq_true', Bool.not_eq_false', Bool.or_eq_false_iff, Bool.and_eq_false_iff] at hc2) <;> try omega) | (refine onSt_if (by omega) ?_) | (split <;> try omega) | omega)
    | true =>
      rw [h] at hg
      rw [h2] at hg2
      have hm := small_sized h
      have hc := smallC_sized h2
      obtain ⟨M, hM⟩ : ∃ M : Msg, M = { m with ci := 0, gi := 0, opts := [] } := ⟨_, rfl⟩
      have hMs : sizedM M := by
        rw [hM]
        exact ⟨hm.1, by simp, by simp⟩
      have hMd : M.d = .agg [.int .i64 m.op, .int .i64 m.htype, .int .i64 m.hlen, .int .i64 m.hops, .int .i64 m.xid, .int .i64 m.secs, .int .i64 m.flags, .int .i64 0, .int .i64 m.yi, .int .i64 m.si, .int .i64 0,
          .slice (m.chaddr.map byteD), .slice []] := by rw [hM]; rfl
      have hpl : placeS M = none := by
        rw [hM]
        simp [placeS, findS, numS]
      have q1 := pickSubnet c M w hc hMs
      have q2 := ref04Right M hMs
      have q3 := lawAs M
      have q5 := ref13OnWire c w hc
      rw [hMd] at q1 q2 q3
      clear hM
      cases hr : rightM M with
      | false =>
        have hs : subnetS c M w = none := by simp [subnetS, hr]
        rw [hs, foundD_n] at q1
        rw [hr] at q2
        simp -implicitDefEqProofs (disch := first | omega | (simp -implicitDefEqProofs; done) | fail) [-List.map_take, -List.map_drop, map_take', map_drop', wrap_in, nth_nat, opt_if, dec_t, dec_f]
        refine o_call rfl rfl hg rfl rfl ?_
        simp -implicitDefEqProofs (disch := first | omega | (simp -implicitDefEqProofs; done) | fail) [-List.map_take, -List.map_drop, map_take', map_drop', wrap_in, nth_nat, opt_if, dec_t, dec_f]
        refine o_call rfl rfl hg2 rfl rfl ?_
        simp -implicitDefEqProofs (disch := first | omega | (simp -implicitDefEqProofs; done) | fail) [-List.map_take, -List.map_drop, map_take', map_drop', wrap_in, nth_nat, opt_if, dec_t, dec_f]
        refine o_call rfl rfl q1 rfl rfl ?_
        simp -implicitDefEqProofs (disch := first | omega | (simp -implicitDefEqProofs; done) | fail) [-List.map_take, -List.map_drop, map_take', map_drop', wrap_in, nth_nat, opt_if, dec_t, dec_f]
        refine o_call rfl rfl q3 rfl rfl ?_
        simp -implicitDefEqProofs (disch := first | omega | (simp -implicitDefEqProofs; done) | fail) [-List.map_take, -List.map_drop, map_take', map_drop', wrap_in, nth_nat, opt_if, dec_t, dec_f]
        refine o_call rfl rfl q2 rfl rfl ?_
        repeat' (first | (simp -implicitDefEqProofs (disch := first | omega | (simp -implicitDefEqProofs; done) | fail) [*, -List.map_take, -List.map_drop, map_take', map_drop', wrap_in, nth_nat, opt_if, dec_t, dec_f]) | (refine o_call rfl rfl (knows) rfl rfl ?_) | (refine sel_by ?_ ?_ <;> intro hc <;> have hc2 := hc <;> (try simp only [decide_eq_true_eq, decide_eq_false_iff_not, Bool.and_eq_true, Bool.or_eq_true, Bool.not_eq_true', Bool.not_eq_false', Bool.or_eq_false_iff, Bool.and_eq_false_iff] at hc2) <;> try omega) | (refine cnd_by ?_ ?_ <;> intro hc <;> have hc2 := hc <;> (try simp only [decide_eq_true_eq, decide_eq_false_iff_not, Bool.and_eq_true, Bool.or_eq_true, Bool.not_eq_true', Bool.not_eq_false', Bool.or_eq_false_iff, Bool.and_eq_false_iff] at hc2) <;> try omega) | (refine onSt_if (by omega) ?_) | (split <;> try omega) | omega)
      | true =>
        have hs : subnetS c M w = wireC c w := by simp [subnetS, hr, hpl]
        rw [hs] at q1
        rw [hr] at q2
        cases h4 : wireC c w with
        | none =>
          rw [h4, foundD_n] at q1 q5
          simp -implicitDefEqProofs (disch := first | omega | (simp -implicitDefEqProofs; done) | fail) [-List.map_take, -List.map_drop, map_take', map_drop', wrap_in, nth_nat, opt_if, dec_t, dec_f]
          refine o_call rfl rfl hg rfl rfl ?_
          simp -implicitDefEqProofs (disch := first | omega | (simp -implicitDefEqProofs; done) | fail) [-List.map_take, -List.map_drop, map_take', map_drop', wrap_in, nth_nat, opt_if, dec_t, dec_f]
          refine o_call rfl rfl hg2 rfl rfl ?_
          simp -implicitDefEqProofs (disch := first | omega | (simp -implicitDefEqProofs; done) | fail) [-List.map_take, -List.map_drop, map_take', map_drop', wrap_in, nth_nat, opt_if, dec_t, dec_f]
          refine o_call rfl rfl q1 rfl rfl ?_
          simp -implicitDefEqProofs (disch := first | omega | (simp -implicitDefEqProofs; done) | fail) [-List.map_take, -List.map_drop, map_take', map_drop', wrap_in, nth_nat, opt_if, dec_t, dec_f]
          refine o_call rfl rfl q3 rfl rfl ?_
          simp -implicitDefEqProofs (disch := first | omega | (simp -implicitDefEqProofs; done) | fail) [-List.map_take, -List.map_drop, map_take', map_drop', wrap_in, nth_nat, opt_if, dec_t, dec_f]
          refine o_call rfl rfl q2 rfl rfl ?_
          repeat' (first | (simp -implicitDefEqProofs (disch := first | omega | (simp -implicitDefEqProofs; done) | fail) [*, -List.map_take, -List.map_drop, map_take', map_drop', wrap_in, nth_nat, opt_if, dec_t, dec_f]) | (refine o_call rfl rfl (q5) rfl rfl ?_) | (refine o_call rfl rfl (knows) rfl rfl ?_) | (refine sel_by ?_ ?_ <;> intro hc <;> have hc2 := hc <;> (try simp only [decide_eq_true_eq, decide_eq_false_iff_not, Bool.and_eq_true, Bool.or_eq_true, Bool.not_eq_true', Bool.not_eq_false', Bool.or_eq_false_iff, Bool.and_eq_false_iff] at hc2) <;> try omega) | (refine cnd_by ?_ ?_ <;> intro hc <;> have hc2 := hc <;> (try simp only [decide_eq_true_eq, decide_eq_false_iff_not, Bool.and_eq_true, Bool.or_eq_true, Bool.not_eq_true', Bool.not_eq_false', Bool.or_eq_false_iff, Bool.and_eq_false_iff] at hc2) <;> try omega) | (refine onSt_if (by omega) ?_) | (split <;> try omega) | omega)
        | some x =>
          rw [h4, foundD_s] at q1 q5
          simp -implicitDefEqProofs (disch := first | omega | (simp -implicitDefEqProofs; done) | fail) [-List.map_take, -List.map_drop, map_take', map_drop', wrap_in, nth_nat, opt_if, dec_t, dec_f]
          refine o_call rfl rfl hg rfl rfl ?_
          simp -implicitDefEqProofs (disch := first | omega | (simp -implicitDefEqProofs; done) | fail) [-List.map_take, -List.map_drop, map_take', map_drop', wrap_in, nth_nat, opt_if, dec_t, dec_f]
          refine o_call rfl rfl hg2 rfl rfl ?_
          simp -implicitDefEqProofs (disch := first | omega | (simp -implicitDefEqProofs; done) | fail) [-List.map_take, -List.map_drop, map_take', map_drop', wrap_in, nth_nat, opt_if, dec_t, dec_f]
          refine o_call rfl rfl q1 rfl rfl ?_
          simp -implicitDefEqProofs (disch := first | omega | (simp -implicitDefEqProofs; done) | fail) [-List.map_take, -List.map_drop, map_take', map_drop', wrap_in, nth_nat, opt_if, dec_t, dec_f]
          refine o_call rfl rfl q3 rfl rfl ?_
          simp -implicitDefEqProofs (disch := first | omega | (simp -implicitDefEqProofs; done) | fail) [-List.map_take, -List.map_drop, map_take', map_drop', wrap_in, nth_nat, opt_if, dec_t, dec_f]
          refine o_call rfl rfl q2 rfl rfl ?_
          repeat' (first | (simp -implicitDefEqProofs (disch := first | omega | (simp -implicitDefEqProofs; done) | fail) [*, -List.map_take, -List.map_drop, map_take', map_drop', wrap_in, nth_nat, opt_if, dec_t, dec_f]) | (refine o_call rfl rfl (q5) rfl rfl ?_) | (refine o_call rfl rfl (knows) rfl rfl ?_) | (refine sel_by ?_ ?_ <;> intro hc <;> have hc2 := hc <;> (try simp only [decide_eq_true_eq, decide_eq_false_iff_not, Bool.and_eq_true, Bool.or_eq_true, Bool.not_eq_true', Bool.not_eq_false', Bool.or_eq_false_iff, Bool.and_eq_false_iff] at hc2) <;> try omega) | (refine cnd_by ?_ ?_ <;> intro hc <;> have hc2 := hc <;> (try simp only [decide_eq_true_eq, decide_eq_false_iff_not, Bool.and_eq_true, Bool.or_eq_true, Bool.not_eq_true', Bool.not_eq_false', Bool.or_eq_false_iff, Bool.and_eq_false_iff] at hc2) <;> try omega) | (refine onSt_if (by omega) ?_) | (split <;> try omega) | omega)

theorem subsF_get : ∀ (k i : Nat) (l : List Sub) (x : Spot), x ∈ subsF k i l → i ≤ x.sub ∧ ∃ h : x.sub - i < l.length, l[x.sub - i] = x.s
  | _, _, [], _, h => by simp [subsF] at h
  | k, i, s :: l, x, h => by
    simp only [subsF, List.mem_cons] at h
    rcases h with rfl | h
    · exact ⟨Nat.le_refl _, by simp, by simp⟩
    · obtain ⟨h1, h2, h3⟩ := subsF_get k (i + 1) l x h
      refine ⟨by omega, by simp only [List.length_cons]; omega, ?_⟩
      have : x.sub - i = (x.sub - (i + 1)) + 1 := by omega
      simp only [this, List.getElem_cons_succ]
      exact h3
theorem spotsF_get : ∀ (k : Nat) (l : List Net) (x : Spot), x ∈ spotsF k l → k ≤ x.net ∧ ∃ h : x.net - k < l.length, ∃ h2 : x.sub < (l[x.net - k]).subs.length, (l[x.net - k]).subs[x.sub] = x.s
  | _, [], _, h => by simp [spotsF] at h
  | k, n :: l, x, h => by
    simp only [spotsF, List.mem_append] at h
    rcases h with h | h
    · have h0 := (subsF_at _ _ _ _ h).1
      obtain ⟨_, h2, h3⟩ := subsF_get _ _ _ _ h
      have e : x.net - k = 0 := by omega
      refine ⟨by omega, by simp [e], ?_⟩
      simp only [e, List.getElem_cons_zero]
      exact ⟨by simpa using h2, by simpa using h3⟩
    · obtain ⟨h1, h2, h3, h4⟩ := spotsF_get (k + 1) l x h
      have e : x.net - k = (x.net - (k + 1)) + 1 := by omega
      refine ⟨by omega, by simp only [List.length_cons]; omega, ?_⟩
      simp only [e, List.getElem_cons_succ]
      exact ⟨h3, h4⟩
theorem right_get {c : Cfg} {x : Spot} (h : x ∈ rightC c) : ∃ h : x.net < c.nets.length, ∃ h2 : x.sub < (c.nets[x.net]).subs.length, (c.nets[x.net]).subs[x.sub] = x.s := by
  unfold rightC at h
  split at h
  · obtain ⟨_, h2, h3⟩ := spotsF_get 0 _ _ h
    simpa using ⟨h2, h3⟩
  · simp at h

theorem lawHas (c : Cfg) (m : Msg) (w : Int) (hok : MsgOk m) : Holds Try.prog 7 [.d c.d, .d m.d, .d (.int .i64 w)] (.d (.bool true)) (fun _ => false) := by
  refine Holds.by (by kernel_rfl) Try.func7 (by kernel_rfl) rfl [20003, 20004] (by simp) (by kernel_rfl) (by kernel_rfl) rfl ?_
  conv in ccs _ => cbv
  have hg := great04 m (Nat.le_trans hok.2.2.1 maxLen_le)
  have hg2 := great13 c
  cases h : smallM m with
  | false =>
    rw [h] at hg
    repeat' (first | (simp -implicitDefEqProofs (disch := first | omega | (simp -implicitDefEqProofs; done) | fail) [*, -List.map_take, -List.map_drop, map_take', map_drop', wrap_in, nth_nat, opt_if, dec_t, dec_f]) | (refine o_call rfl rfl (hg) rfl rfl ?_) | (refine o_call rfl rfl (hg2) rfl rfl ?_) | (refine o_call rfl rfl (knows) rfl rfl ?_) | (refine sel_by ?_ ?_ <;> intro hc <;> have hc2 := hc <;> (try simp only [decide_eq_true_eq, decide_eq_false_iff_not, Bool.and_eq_true, Bool.or_eq_true, Bool.not_eq_true', Bool.not_eq_false', Bool.or_eq_false_iff, Bool.and_eq_false_iff] at hc2) <;> try omega) | (refine cnd_by ?_ ?_ <;> intro hc <;> have hc2 := hc <;> (try simp only [decide_eq_true_eq, decide_eq_false_iff_not, Bool.and_eq_true, Bool.or_eq_true, Bool.not_eq_true', Bool.not_eq_false', Bool.or_eq_false_iff, Bool.and_eq_false_iff] at hc2) <;> try omega) | (refine onSt_if (by omega) ?_) | (split <;> try omega) | omega)
  | true =>
    cases h2 : smallC c with
    | false =>
      rw [h] at hg
      rw [h2] at hg2
      repeat' (first | (simp -implicitDefEqProofs (disch := first | omega | (simp -implicitDefEqProofs; done) | fail) [*, -List.map_take, -List.map_drop, map_take', map_drop', wrap_in, nth_nat, opt_if, dec_t, dec_f]) | (refine o_call rfl rfl (hg) rfl rfl ?_) | (refine o_call rfl rfl (hg2) rfl rfl ?_) | (refine o_call rfl rfl (knows) rfl rfl ?_) | (refine sel_by ?_ ?_ <;> intro hc <;> have hc2 := hc <;> (try simp only [decide_eq_true_eq, decide_eq_false_iff_not, Bool.and_eq_true, Bool.or_eq_true, Bool.not_eq_true', Bool.not_eq_false', Bool.or_eq_false_iff, Bool.and_eq_false_iff] at hc2) <;> try omega) | (refine cnd_by ?_ ?_ <;> intro hc <;> have hc2 := hc <;> (try simp only [decide_eq_true_eq, decide_eq_false_iff_not, Bool.and_eq_true, Bool.or_eq_true, Bool.not_eq_true', Bool.not_eq_false', Bool.or_eq_false_iff, Bool.and_eq_false_iff] at hc2) <;> try omega) | (refine onSt_if (by omega) ?_) | (split <;> try omega) | omega)
    | true =>
      rw [h] at hg
      rw [h2] at hg2
      have hm := small_sized h
      have hc := smallC_sized h2
      have q1 := pickSubnet c m w hc hm
      have q2 := pickPlace m hm
      cases h3 : subnetS c m w with
      | none =>
        rw [h3, foundD_n] at q1
        cases h4 : placeS m with
        | none =>
          rw [h4, optA_n] at q2
          repeat' (first | (simp -implicitDefEqProofs (disch := first | omega | (simp -implicitDefEqProofs; done) | fail) [*, -List.map_take, -List.map_drop, map_take', map_drop', wrap_in, nth_nat, opt_if, dec_t, dec_f]) | (refine o_call rfl rfl (hg) rfl rfl ?_) | (refine o_call rfl rfl (hg2) rfl rfl ?_) | (refine o_call rfl rfl (q1) rfl rfl ?_) | (refine o_call rfl rfl (q2) rfl rfl ?_) | (refine o_call rfl rfl (knows) rfl rfl ?_) | (refine sel_by ?_ ?_ <;> intro hc <;> have hc2 := hc <;> (try simp only [decide_eq_true_eq, decide_eq_false_iff_not, Bool.and_eq_true, Bool.or_eq_true, Bool.not_eq_true', Bool.not_eq_false', Bool.or_eq_false_iff, Bool.and_eq_false_iff] at hc2) <;> try omega) | (refine cnd_by ?_ ?_ <;> intro hc <;> have hc2 := hc <;> (try simp only [decide_eq_true_eq, decide_eq_false_iff_not, Bool.and_eq_true, Bool.or_eq_true, Bool.not_eq_true', Bool.not_eq_false', Bool.or_eq_false_iff, Bool.and_eq_false_iff] at hc2) <;> try omega) | (refine onSt_if (by omega) ?_) | (split <;> try omega) | omega)
        | some a =>
          rw [h4, optA_s] at q2
          repeat' (first | (simp -implicitDefEqProofs (disch := first | omega | (simp -implicitDefEqProofs; done) | fail) [*, -List.map_take, -List.map_drop, map_take', map_drop', wrap_in, nth_nat, opt_if, dec_t, dec_f]) | (refine o_call rfl rfl (hg) rfl rfl ?_) | (refine o_call rfl rfl (hg2) rfl rfl ?_) | (refine o_call rfl rfl (q1) rfl rfl ?_) | (refine o_call rfl rfl (q2) rfl rfl ?_) | (refine o_call rfl rfl (knows) rfl rfl ?_) | (refine sel_by ?_ ?_ <;> intro hc <;> have hc2 := hc <;> (try simp only [decide_eq_true_eq, decide_eq_false_iff_not, Bool.and_eq_true, Bool.or_eq_true, Bool.not_eq_true', Bool.not_eq_false', Bool.or_eq_false_iff, Bool.and_eq_false_iff] at hc2) <;> try omega) | (refine cnd_by ?_ ?_ <;> intro hc <;> have hc2 := hc <;> (try simp only [decide_eq_true_eq, decide_eq_false_iff_not, Bool.and_eq_true, Bool.or_eq_true, Bool.not_eq_true', Bool.not_eq_false', Bool.or_eq_false_iff, Bool.and_eq_false_iff] at hc2) <;> try omega) | (refine onSt_if (by omega) ?_) | (split <;> try omega) | omega)
      | some x =>
        rw [h3, foundD_s] at q1
        cases h4 : placeS m with
        | none =>
          rw [h4, optA_n] at q2
          repeat' (first | (simp -implicitDefEqProofs (disch := first | omega | (simp -implicitDefEqProofs; done) | fail) [*, -List.map_take, -List.map_drop, map_take', map_drop', wrap_in, nth_nat, opt_if, dec_t, dec_f]) | (refine o_call rfl rfl (hg) rfl rfl ?_) | (refine o_call rfl rfl (hg2) rfl rfl ?_) | (refine o_call rfl rfl (q1) rfl rfl ?_) | (refine o_call rfl rfl (q2) rfl rfl ?_) | (refine o_call rfl rfl (knows) rfl rfl ?_) | (refine sel_by ?_ ?_ <;> intro hc <;> have hc2 := hc <;> (try simp only [decide_eq_true_eq, decide_eq_false_iff_not, Bool.and_eq_true, Bool.or_eq_true, Bool.not_eq_true', Bool.not_eq_false', Bool.or_eq_false_iff, Bool.and_eq_false_iff] at hc2) <;> try omega) | (refine cnd_by ?_ ?_ <;> intro hc <;> have hc2 := hc <;> (try simp only [decide_eq_true_eq, decide_eq_false_iff_not, Bool.and_eq_true, Bool.or_eq_true, Bool.not_eq_true', Bool.not_eq_false', Bool.or_eq_false_iff, Bool.and_eq_false_iff] at hc2) <;> try omega) | (refine onSt_if (by omega) ?_) | (split <;> try omega) | omega)
        | some a =>
          rw [h4, optA_s] at q2
          have hf : findC c a = some x := by
            unfold subnetS at h3
            split at h3
            · rw [h4] at h3
              exact h3
            · cases h3
          have hx : hasA x.s.base x.s.bits a = true := by
            unfold findC at hf
            exact List.find?_some (p := fun y : Spot => hasA y.s.base y.s.bits a) hf
          obtain ⟨g1, g2, g3⟩ := right_get (by unfold findC at hf; exact List.mem_of_find?_eq_some hf)
          have q3 := ref01Has x.s.base x.s.bits a
          rw [hx] at q3
          have k1 : ¬ (c.nets.length : Int) ≤ x.net := by omega
          have k2 : ¬ ((c.nets[x.net]).subs.length : Int) ≤ x.sub := by omega
          repeat' (first | (simp -implicitDefEqProofs (disch := first | omega | (simp -implicitDefEqProofs; done) | fail) [*, -List.map_take, -List.map_drop, map_take', map_drop', wrap_in, nth_nat, opt_if, dec_t, dec_f, g3]) | (refine o_call rfl rfl (hg) rfl rfl ?_) | (refine o_call rfl rfl (hg2) rfl rfl ?_) | (refine o_call rfl rfl (q1) rfl rfl ?_) | (refine o_call rfl rfl (q2) rfl rfl ?_) | (refine o_call rfl rfl (q3) rfl rfl ?_) | (refine o_call rfl rfl (knows) rfl rfl ?_) | (refine sel_by ?_ ?_ <;> intro hc <;> have hc2 := hc <;> (try simp only [decide_eq_true_eq, decide_eq_false_iff_not, Bool.and_eq_true, Bool.or_eq_true, Bool.not_eq_true', Bool.not_eq_false', Bool.or_eq_false_iff, Bool.and_eq_false_iff] at hc2) <;> try omega) | (refine cnd_by ?_ ?_ <;> intro hc <;> have hc2 := hc <;> (try simp only [decide_eq_true_eq, decide_eq_false_iff_not, Bool.and_eq_true, Bool.or_eq_true, Bool.not_eq_true', Bool.not_eq_false', Bool.or_eq_false_iff, Bool.and_eq_false_iff] at hc2) <;> try omega) | (refine onSt_if (by omega) ?_) | (split <;> try omega) | omega)
end Go.Proofs.Ytodpeiehnecneaa
