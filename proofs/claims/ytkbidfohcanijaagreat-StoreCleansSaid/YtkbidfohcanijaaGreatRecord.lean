/- Records: a lease as bytes, and back; what the program and the document answer. -/
import Derived.Test.YtkbidfohcanijaaGreatKey
namespace Go.Proofs.YtkbidfohcanijaaGreat
open BoEng Go
set_option maxRecDepth 100000
attribute [-simp] List.map_take List.map_drop List.length_flatMap
set_option linter.unusedSimpArgs false
set_option linter.unusedVariables false

def le0 : LeaseR := ⟨0, 0, 0, []⟩
/-- The lease of bytes, whether or not it may be. -/
def rawL (b : List UInt8) : LeaseR := ⟨valB (b.take 4), ((b.getD 4 0).toNat : Int), valB ((b.drop 5).take 7), b.drop 12⟩
def readL (b : List UInt8) : LeaseR × Int := if b.length < 12 then (le0, 4) else if rightL (rawL b) = true then (rawL b, 0) else (le0, 2)
def writeL (l : LeaseR) : List UInt8 := putB l.addr.toNat 4 ++ [UInt8.ofNat l.state.toNat] ++ putB l.expiry.toNat 7 ++ l.key

theorem ref09Read (b : List UInt8) (hl : b.length ≤ 1000000) : Holds Tryz.prog 67 [.d (.slice (b.map byteD))] (.tup [.d (readL b).1.d, .d (.int .i64 (readL b).2)]) (fun _ => false) := by
  refine Holds.by (by kernel_rfl) Tryz.func67 (by kernel_rfl) rfl [50013, 50014] (by simp) (by kernel_rfl) (by kernel_rfl) rfl ?_
  conv in ccs _ => cbv
  unfold readL
  by_cases h : (b.length : Int) < 12
  · have h' : b.length < 12 := by omega
    simp (config := sc) (disch := first | exact dd | fail) [std, h, h', le0, LeaseR.d]
  have h' : ¬ b.length < 12 := by omega
  have q1 := ref02Value (b.take 4) (by simp; omega)
  have q2 := ref02Value ((b.take 12).drop 5) (by simp; omega)
  have e2 : (b.take 12).drop 5 = (b.drop 5).take 7 := by rw [List.drop_take]
  have q3 := ref09Right (rawL b) (by simp [rawL]; omega)
  have h4 : 4 < b.length := by omega
  have hr : rawL b = ⟨valB (b.take 4), (b[4].toNat : Int), valB ((b.drop 5).take 7), b.drop 12⟩ := by simp [rawL, List.getD_eq_getElem?_getD, h4]
  have hw := u8_wrap b[4]
  have hn : nth b (4 : Int) = b[4] := nth_nat (i := 4) h4
  rw [← e2] at hr
  have hd : (rawL b).d = .agg [.int .i64 (valB (b.take 4)), .int .i64 (b[4].toNat : Int), .int .i64 (valB ((b.take 12).drop 5)), .str (b.drop 12)] := by rw [hr]; rfl
  rw [hd] at q3
  cases hc : rightL (rawL b) with
  | true =>
    rw [hc] at q3
    simp (config := sc) (disch := first | exact dd | fail) [std, h, h', hd]
    refine o_call rfl rfl q1 rfl rfl ?_
    simp (config := sc) (disch := first | exact dd | fail) [std, h4, byteD, hn, hw]
    refine o_call rfl rfl q2 rfl rfl ?_
    simp (config := sc) (disch := first | exact dd | fail) [std]
    refine o_call rfl rfl q3 rfl rfl ?_
    simp (config := sc) (disch := first | exact dd | fail) [std]
    done
  | false =>
    rw [hc] at q3
    simp (config := sc) (disch := first | exact dd | fail) [std, h, h', le0, LeaseR.d]
    refine o_call rfl rfl q1 rfl rfl ?_
    simp (config := sc) (disch := first | exact dd | fail) [std, h4, byteD, hn, hw]
    refine o_call rfl rfl q2 rfl rfl ?_
    simp (config := sc) (disch := first | exact dd | fail) [std]
    refine o_call rfl rfl q3 rfl rfl ?_
    simp (config := sc) (disch := first | exact dd | fail) [std]

theorem recordPut (v n : Nat) (h1 : 1 ≤ n) (h7 : n ≤ 7) (hv : v < 256 ^ n) (no g : Nat) {fo : Nat} {gl : Nat → Nat} (hno : no < fo) (hg : 0 < g) (xs : List UInt8) (hx : xs.length ≤ 100000) :
    Meets Tryz.prog fo gl 61 [.d (.int .i64 v), .d (.int .i64 n), .ptr no g 0] [⟨no, g, [.d (.slice (xs.map byteD))], fun k => k == 0⟩] .undef (fun _ => false) [⟨no, g, [.d (.slice ((xs ++ putB v n).map byteD))], fun k => k == 0⟩] := by
  refine Meets.by (by kernel_rfl) Tryz.func61 (by kernel_rfl) rfl [13] (by simp) (by kernel_rfl) (by kernel_rfl) (by simp [namesIn, namesL, hg]) (by simp [namesIn, namesL, hg]) (by simp [hg]) ?_
  conv in ccs _ => cbv
  have hk1 : ∀ k, (no = fo + k) = False := fun k => by simp; omega
  have hk2 : ∀ k, (fo + k = no) = False := fun k => by simp; omega
  have q := codePutN v n h1 h7 hv
  have hpl := putB_len v n
  simp (config := sc) (disch := first | exact dd | fail) [std, hk1, hk2]
  refine o_call rfl rfl q rfl rfl ?_
  simp (config := sc) (disch := first | exact dd | fail) [std, hk1, hk2]
  done

theorem right_rng {l : LeaseR} (h : rightL l = true) : (0 ≤ l.addr ∧ l.addr ≤ 4294967295) ∧ (1 ≤ l.state ∧ l.state ≤ 3) ∧ (0 ≤ l.expiry ∧ l.expiry ≤ 1125899906842624) ∧ keyR l.key = true := by
  simp only [rightL, Bool.and_eq_true, decide_eq_true_eq] at h
  exact ⟨rightA_iff.1 h.1.1.1, h.1.1.2, h.1.2, h.2⟩
def recB (l : LeaseR) : List UInt8 := putB l.addr.toNat 4 ++ putB l.state.toNat 1 ++ putB l.expiry.toNat 7 ++ l.key
theorem recordWrite (l : LeaseR) (hk : l.key.length ≤ 1000000) : Holds Tryz.prog 34 [.d l.d] (.tup [.d (.slice ((if rightL l = true then recB l else []).map byteD)), .d (.int .i64 (if rightL l = true then 0 else 1))]) (fun _ => false) := by
  refine Holds.by (by kernel_rfl) Tryz.func34 (by kernel_rfl) rfl [20001, 40013, 40017, 40021, 22] (by simp) (by kernel_rfl) (by kernel_rfl) rfl ?_
  conv in ccs _ => cbv
  have q := recordRight l (by omega)
  cases hr : rightL l with
  | false =>
    rw [hr] at q
    simp (config := sc) (disch := first | exact dd | fail) [std]
    refine o_call rfl rfl q rfl rfl ?_
    simp (config := sc) (disch := first | exact dd | fail) [std]
  | true =>
    rw [hr] at q
    obtain ⟨⟨a0, a1⟩, ⟨s0, s1⟩, ⟨e0, e1⟩, _⟩ := right_rng hr
    obtain ⟨a, ha⟩ := Int.eq_ofNat_of_zero_le a0
    obtain ⟨st, hs⟩ := Int.eq_ofNat_of_zero_le (show 0 ≤ l.state by omega)
    obtain ⟨ex, he⟩ := Int.eq_ofNat_of_zero_le e0
    have q1 := @recordPut a 4 (by omega) (by omega) (by omega) (FO + 4) 1
    have q2 := @recordPut st 1 (by omega) (by omega) (by omega) (FO + 4) 1
    have q3 := @recordPut ex 7 (by omega) (by omega) (by omega) (FO + 4) 1
    have l1 := putB_len a 4
    have l2 := putB_len st 1
    have l3 := putB_len ex 7
    unfold recB
    have hd : l.d = .agg [.int .i64 (a : Int), .int .i64 (st : Int), .int .i64 (ex : Int), .str l.key] := by simp [LeaseR.d, ha, hs, he]
    rw [hd] at q
    simp (config := sc) (disch := first | exact dd | fail) [std, ha, hs, he]
    refine o_call rfl rfl q rfl rfl ?_
    simp (config := sc) (disch := first | exact dd | fail) [std, ha, hs, he]
    refine o_cb (FO + 1000) rfl rfl (q1 (by omega) (by omega) [] (by simp)) rfl (by simp (config := sc) (disch := first | exact dd | fail) [std]) ?_
    simp (config := sc) (disch := first | exact dd | fail) [std, ha, hs, he]
    refine o_cb (FO + 1000) rfl rfl (q2 (by omega) (by omega) (putB a 4) (by omega)) rfl (by simp (config := sc) (disch := first | exact dd | fail) [std]) ?_
    simp (config := sc) (disch := first | exact dd | fail) [std, ha, hs, he]
    refine o_cb (FO + 1000) rfl rfl (q3 (by omega) (by omega) (putB a 4 ++ putB st 1) (by simp; omega)) rfl (by simp (config := sc) (disch := first | exact dd | fail) [std]) ?_
    simp (config := sc) (disch := first | exact dd | fail) [std, ha, hs, he]
    done

theorem recordGet (b : List UInt8) (hb : b.length ≤ 1000000) (at_ n : Nat) (ha : at_ ≤ 1000) (h7 : n ≤ 7) (no g : Nat) {fo : Nat} {gl : Nat → Nat} (hno : no < fo) (hg : 0 < g) :
    Meets Tryz.prog fo gl 85 [.d (.int .i64 n), .cptr [.slice (b.map byteD)], .ptr no g 0] [⟨no, g, [.d (.int .i64 at_)], fun _ => false⟩] (.d (.int .i64 (getV b at_ n))) (fun _ => false) [⟨no, g, [.d (.int .i64 ((at_ + n : Nat) : Int))], fun _ => false⟩] := by
  refine Meets.by (by kernel_rfl) Tryz.func85 (by kernel_rfl) rfl [] (by simp) (by kernel_rfl) (by kernel_rfl) (by simp [namesIn, namesL, hg]) (by simp [namesIn, namesL, hg]) (by simp [hg]) ?_
  conv in ccs _ => cbv
  have hk1 : ∀ k, (no = fo + k) = False := fun k => by simp; omega
  have hk2 : ∀ k, (fo + k = no) = False := fun k => by simp; omega
  have q := codeGet b at_ n (by omega)
  simp (config := sc) (disch := first | exact dd | fail) [std, hk1, hk2]
  refine o_call rfl rfl q rfl rfl ?_
  simp (config := sc) (disch := first | exact dd | fail) [std, hk1, hk2]
  done

theorem recordRead (b : List UInt8) (hl : b.length ≤ 1000000) : Holds Tryz.prog 56 [.d (.slice (b.map byteD))] (.tup [.d (readL b).1.d, .d (.int .i64 (readL b).2)]) (fun _ => false) := by
  refine Holds.by (by kernel_rfl) Tryz.func56 (by kernel_rfl) rfl [20001, 40013, 40016, 40019] (by simp) (by kernel_rfl) (by kernel_rfl) rfl ?_
  conv in ccs _ => cbv
  unfold readL
  by_cases h : (b.length : Int) < 12
  · have h' : b.length < 12 := by omega
    simp (config := sc) (disch := first | exact dd | fail) [std, h, h', le0, LeaseR.d]
  have h' : ¬ b.length < 12 := by omega
  have h4 : 4 < b.length := by omega
  have hr : rawL b = ⟨valB (b.take 4), (b[4].toNat : Int), valB ((b.drop 5).take 7), b.drop 12⟩ := by simp [rawL, List.getD_eq_getElem?_getD, h4]
  have hd : (rawL b).d = .agg [.int .i64 (valB (b.take 4)), .int .i64 (b[4].toNat : Int), .int .i64 (valB ((b.drop 5).take 7)), .str (b.drop 12)] := by rw [hr]; rfl
  have ge : ∀ a n : Nat, 1 ≤ n → n ≤ 7 → a + n ≤ 12 → getE b a n = 0 := by
    intro a n h1 h7 h12
    unfold getE
    rw [if_neg (by omega), if_neg (by omega)]
  have g1 : getV b (0 : Nat) (4 : Nat) = valB (b.take 4) := by
    simp only [getV, ge 0 4 (by omega) (by omega) (by omega), if_true, Int.toNat_natCast, List.drop_zero]
  have g2 : getV b (4 : Nat) (1 : Nat) = (b[4].toNat : Int) := by
    have e : (b.drop 4).take 1 = [b[4]] := by rw [List.drop_eq_getElem_cons h4]; rfl
    simp only [getV, ge 4 1 (by omega) (by omega) (by omega), if_true, Int.toNat_natCast, e]
    simp [valB]
  have g3 : getV b (5 : Nat) (7 : Nat) = valB ((b.drop 5).take 7) := by
    simp only [getV, ge 5 7 (by omega) (by omega) (by omega), if_true, Int.toNat_natCast]
  have q1 := @recordGet b hl 0 4 (by omega) (by omega) (FO + 4) 1
  have q2 := @recordGet b hl 4 1 (by omega) (by omega) (FO + 4) 1
  have q3 := @recordGet b hl 5 7 (by omega) (by omega) (FO + 4) 1
  rw [g1] at q1
  rw [g2] at q2
  rw [g3] at q3
  have q4 := recordRight (rawL b) (by simp [rawL]; omega)
  rw [hd] at q4
  clear ge g1 g2 g3
  simp (config := sc) (disch := first | exact dd | fail) [std, h, h']
  refine o_cb (FO + 1000) rfl rfl (q1 (by omega) (by omega)) rfl (by simp (config := sc) (disch := first | exact dd | fail) [std]) ?_
  simp (config := sc) (disch := first | exact dd | fail) [std, h, h']
  refine o_cb (FO + 1000) rfl rfl (q2 (by omega) (by omega)) rfl (by simp (config := sc) (disch := first | exact dd | fail) [std]) ?_
  simp (config := sc) (disch := first | exact dd | fail) [std, h, h']
  refine o_cb (FO + 1000) rfl rfl (q3 (by omega) (by omega)) rfl (by simp (config := sc) (disch := first | exact dd | fail) [std]) ?_
  simp (config := sc) (disch := first | exact dd | fail) [std, h, h']
  refine o_call rfl rfl q4 rfl rfl ?_
  cases hc : rightL (rawL b) with
  | true => simp (config := sc) (disch := first | exact dd | fail) [std, hd]
  | false => simp (config := sc) (disch := first | exact dd | fail) [std, le0, LeaseR.d]

end Go.Proofs.YtkbidfohcanijaaGreat
