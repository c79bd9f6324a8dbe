/- Journals: what the program's journal and the document's answer. -/
import Derived.Test.YtkbidfohcanijaaGreatRecord
import Derived.Test.YtkbidfohcanijaaGreatDiskN
namespace Go.Proofs.YtkbidfohcanijaaGreat
open BoEng Go
set_option maxRecDepth 100000
attribute [-simp] List.map_take List.map_drop List.length_flatMap
set_option linter.unusedSimpArgs false
set_option linter.unusedVariables false

/-- The leases of bytes, how many are whole, the error; 'k' rounds at most. -/
def jread : Nat → List UInt8 → Nat → List LeaseR → List LeaseR × Int × Int
  | 0, b, at_, out => (out, at_, 0)
  | k + 1, b, at_, out =>
    if at_ < b.length then
      if (openS (b.drop at_)).2.2 = 4 then (out, at_, 4)
      else if (openS (b.drop at_)).2.2 ≠ 0 then ([], 0, 2)
      else if (readL (openS (b.drop at_)).1).2 ≠ 0 then ([], 0, 2)
      else jread k b (at_ + (openS (b.drop at_)).2.1.toNat) (out ++ [(readL (openS (b.drop at_)).1).1])
    else (out, at_, 0)
def readJ (b : List UInt8) : List LeaseR × Int × Int := jread (b.length + 1) b 0 []

theorem openS_pos {b : List UInt8} (h : (openS b).2.2 = 0) : 6 ≤ (openS b).2.1 ∧ (openS b).2.1 ≤ b.length ∧ (openS b).1.length ≤ b.length := by
  unfold openS at h ⊢
  by_cases h1 : b.length < 6
  · rw [if_pos h1] at h; simp at h
  rw [if_neg h1] at h ⊢
  by_cases h2 : frN b > 2000
  · rw [if_pos h2] at h; simp at h
  rw [if_neg h2] at h ⊢
  by_cases h3 : b.length < 6 + frN b
  · rw [if_pos h3] at h; simp at h
  rw [if_neg h3] at h ⊢
  by_cases h4 : sumN (frX b) = frS b
  · rw [if_pos h4]
    refine ⟨by simp; omega, by simp; omega, by simp [frX]; omega⟩
  · rw [if_neg h4] at h; simp at h

theorem openS_len (b : List UInt8) : (openS b).1.length ≤ b.length := by
  unfold openS
  split
  · simp
  split
  · simp
  split
  · simp
  split
  · simp [frX]; omega
  · simp

def jrI (b : List UInt8) (q : Nat × Nat × List LeaseR) (S : PS) : Prop :=
  jread q.1 b q.2.1 q.2.2 = readJ b ∧ q.2.1 ≤ b.length ∧ b.length + 1 ≤ q.2.1 + q.1 ∧ q.2.2.length ≤ q.2.1 ∧ S.t 5 = .d (.slice (b.map byteD)) ∧ S.t 7 = .d (.slice (q.2.2.map LeaseR.d)) ∧ S.own (.t 7 0) = true ∧ S.t 8 = .d (.int .i64 q.2.1) ∧ S.fo = FO
theorem journalRead (k : Dk) (hk : okK k) (hb : (getS k [106]).1.length ≤ 1000000) : Holds Tryz.prog 29 [.d k.d] (.tup [.d (.slice ((readJ (getS k [106]).1).1.map LeaseR.d)), .d (.int .i64 (readJ (getS k [106]).1).2.1), .d (.int .i64 (readJ (getS k [106]).1).2.2)]) (fun _ => false) := by
  refine Holds.by (by kernel_rfl) Tryz.func29 (by kernel_rfl) rfl [20001, 47] (by simp) (by kernel_rfl) (by kernel_rfl) rfl ?_
  conv in ccs _ => cbv
  have q := diskGet k hk [106]
  generalize getS k [106] = g at *
  obtain ⟨b, e⟩ := g
  dsimp only at hb q ⊢
  simp (config := sc) (disch := first | exact dd | fail) [std]
  refine o_call rfl rfl q rfl rfl ?_
  simp (config := sc) (disch := first | exact dd | fail) [std]
  refine lp (jrI b) (fun q => b.length - q.2.1) (b.length + 1, 0, []) ⟨rfl, by simp, by simp, by simp, by simp, by simp, by simp, by simp, by simp⟩ ?_
  clear q
  rintro ⟨n, at_, out⟩ S ⟨hj, ha, hn, ho, e5, e7, o7, e8, efo⟩
  dsimp only at hj ha hn ho e5 e7 e8
  cases n with
  | zero => omega
  | succ n =>
  unfold jread at hj
  by_cases hlt : at_ < b.length
  · rw [if_pos hlt] at hj
    have k6 : (at_ : Int) < b.length := by omega
    have q1 := codeOpen (b.drop at_) (by simp; omega)
    have hps := openS_pos (b := b.drop at_)
    have hxl := openS_len (b.drop at_)
    generalize openS (b.drop at_) = x at *
    obtain ⟨xb, xn, xe⟩ := x
    dsimp only at hj q1 hps hxl
    by_cases h4 : xe = 4
    · rw [if_pos h4] at hj
      rw [← hj]
      simp (config := sc) (disch := first | exact dd | fail) [std, e5, e7, o7, e8, efo, k6]
      refine o_call rfl rfl q1 rfl rfl ?_
      simp (config := sc) (disch := first | exact dd | fail) [std, e5, e7, o7, e8, efo, k6, h4]
      done
    rw [if_neg h4] at hj
    have hdl : (b.drop at_).length ≤ 1000000 := by simp; omega
    have q2 := recordRead xb (by omega)
    by_cases h0 : xe = 0
    · rw [if_neg (fun h => h h0)] at hj
      obtain ⟨p1, p2, _⟩ := hps h0
      generalize readL xb = r at *
      obtain ⟨l, f⟩ := r
      dsimp only at hj q2
      by_cases hf : f = 0
      · rw [if_neg (fun h => h hf)] at hj
        obtain ⟨m, rfl⟩ := Int.eq_ofNat_of_zero_le (show 0 ≤ xn by omega)
        rw [Int.toNat_natCast] at hj
        have hml : at_ + m ≤ b.length := by
          simp only [List.length_drop] at p2
          omega
        simp (config := sc) (disch := first | exact dd | fail) [std, e5, e7, o7, e8, efo, k6]
        refine o_call rfl rfl q1 rfl rfl ?_
        simp (config := sc) (disch := first | exact dd | fail) [std, e5, e7, o7, e8, efo, k6, h4]
        refine o_call rfl rfl q2 rfl rfl ?_
        simp (config := sc) (disch := first | exact dd | fail) [std, e5, e7, o7, e8, efo, k6, h4, h0, hf]
        exact nxt_of (n, at_ + m, out ++ [l]) ⟨hj, hml, by show b.length + 1 ≤ at_ + m + n; omega, by simp; omega, by simp (config := sc) (disch := first | exact dd | fail) [std, e5], by simp (config := sc) (disch := first | exact dd | fail) [std, LeaseR.d], by simp (config := sc) (disch := first | exact dd | fail) [std], by simp, by simp (config := sc) (disch := first | exact dd | fail) [std, efo]⟩ (by show b.length - (at_ + m) < b.length - at_; omega)
      · rw [if_pos hf] at hj
        rw [← hj]
        simp (config := sc) (disch := first | exact dd | fail) [std, e5, e7, o7, e8, efo, k6]
        refine o_call rfl rfl q1 rfl rfl ?_
        simp (config := sc) (disch := first | exact dd | fail) [std, e5, e7, o7, e8, efo, k6, h4]
        refine o_call rfl rfl q2 rfl rfl ?_
        simp (config := sc) (disch := first | exact dd | fail) [std, e5, e7, o7, e8, efo, k6, h4, h0, hf]
        done
    · rw [if_pos h0] at hj
      rw [← hj]
      simp (config := sc) (disch := first | exact dd | fail) [std, e5, e7, o7, e8, efo, k6]
      refine o_call rfl rfl q1 rfl rfl ?_
      simp (config := sc) (disch := first | exact dd | fail) [std, e5, e7, o7, e8, efo, k6, h4]
      refine o_call rfl rfl q2 rfl rfl ?_
      simp (config := sc) (disch := first | exact dd | fail) [std, e5, e7, o7, e8, efo, k6, h4, h0]
      done
  · rw [if_neg hlt] at hj
    have k6 : ¬ (at_ : Int) < b.length := by omega
    rw [← hj]
    simp (config := sc) (disch := first | exact dd | fail) [std, e5, e7, o7, e8, efo, k6]
    done

theorem ref10Read (k : Dk) (hk : okK k) (hb : (getS k [106]).1.length ≤ 1000000) : Holds Tryz.prog 38 [.d k.d] (.tup [.d (.slice ((readJ (getS k [106]).1).1.map LeaseR.d)), .d (.int .i64 (readJ (getS k [106]).1).2.1), .d (.int .i64 (readJ (getS k [106]).1).2.2)]) (fun _ => false) := by
  refine Holds.by (by kernel_rfl) Tryz.func38 (by kernel_rfl) rfl [20001, 44] (by simp) (by kernel_rfl) (by kernel_rfl) rfl ?_
  conv in ccs _ => cbv
  have q := ref08Get k hk [106]
  generalize getS k [106] = g at *
  obtain ⟨b, e⟩ := g
  dsimp only at hb q ⊢
  simp (config := sc) (disch := first | exact dd | fail) [std]
  refine o_call rfl rfl q rfl rfl ?_
  simp (config := sc) (disch := first | exact dd | fail) [std]
  refine lp (jrI b) (fun q => b.length - q.2.1) (b.length + 1, 0, []) ⟨rfl, by simp, by simp, by simp, by simp, by simp, by simp, by simp, by simp⟩ ?_
  clear q
  rintro ⟨n, at_, out⟩ S ⟨hj, ha, hn, ho, e5, e7, o7, e8, efo⟩
  dsimp only at hj ha hn ho e5 e7 e8
  cases n with
  | zero => omega
  | succ n =>
  unfold jread at hj
  by_cases hlt : at_ < b.length
  · rw [if_pos hlt] at hj
    have k6 : (at_ : Int) < b.length := by omega
    have q1 := ref02Open (b.drop at_) (by simp; omega)
    have hps := openS_pos (b := b.drop at_)
    have hxl := openS_len (b.drop at_)
    generalize openS (b.drop at_) = x at *
    obtain ⟨xb, xn, xe⟩ := x
    dsimp only at hj q1 hps hxl
    by_cases h4 : xe = 4
    · rw [if_pos h4] at hj
      rw [← hj]
      simp (config := sc) (disch := first | exact dd | fail) [std, e5, e7, o7, e8, efo, k6]
      refine o_call rfl rfl q1 rfl rfl ?_
      simp (config := sc) (disch := first | exact dd | fail) [std, e5, e7, o7, e8, efo, k6, h4]
      done
    rw [if_neg h4] at hj
    have hdl : (b.drop at_).length ≤ 1000000 := by simp; omega
    have q2 := ref09Read xb (by omega)
    by_cases h0 : xe = 0
    · rw [if_neg (fun h => h h0)] at hj
      obtain ⟨p1, p2, _⟩ := hps h0
      generalize readL xb = r at *
      obtain ⟨l, f⟩ := r
      dsimp only at hj q2
      by_cases hf : f = 0
      · rw [if_neg (fun h => h hf)] at hj
        obtain ⟨m, rfl⟩ := Int.eq_ofNat_of_zero_le (show 0 ≤ xn by omega)
        rw [Int.toNat_natCast] at hj
        have hml : at_ + m ≤ b.length := by
          simp only [List.length_drop] at p2
          omega
        simp (config := sc) (disch := first | exact dd | fail) [std, e5, e7, o7, e8, efo, k6]
        refine o_call rfl rfl q1 rfl rfl ?_
        simp (config := sc) (disch := first | exact dd | fail) [std, e5, e7, o7, e8, efo, k6, h4, h0]
        refine o_call rfl rfl q2 rfl rfl ?_
        simp (config := sc) (disch := first | exact dd | fail) [std, e5, e7, o7, e8, efo, k6, h4, h0, hf]
        exact nxt_of (n, at_ + m, out ++ [l]) ⟨hj, hml, by show b.length + 1 ≤ at_ + m + n; omega, by simp; omega, by simp (config := sc) (disch := first | exact dd | fail) [std, e5], by simp (config := sc) (disch := first | exact dd | fail) [std, LeaseR.d], by simp (config := sc) (disch := first | exact dd | fail) [std], by simp, by simp (config := sc) (disch := first | exact dd | fail) [std, efo]⟩ (by show b.length - (at_ + m) < b.length - at_; omega)
      · rw [if_pos hf] at hj
        rw [← hj]
        simp (config := sc) (disch := first | exact dd | fail) [std, e5, e7, o7, e8, efo, k6]
        refine o_call rfl rfl q1 rfl rfl ?_
        simp (config := sc) (disch := first | exact dd | fail) [std, e5, e7, o7, e8, efo, k6, h4, h0]
        refine o_call rfl rfl q2 rfl rfl ?_
        simp (config := sc) (disch := first | exact dd | fail) [std, e5, e7, o7, e8, efo, k6, h4, h0, hf]
        done
    · rw [if_pos h0] at hj
      rw [← hj]
      simp (config := sc) (disch := first | exact dd | fail) [std, e5, e7, o7, e8, efo, k6]
      refine o_call rfl rfl q1 rfl rfl ?_
      simp (config := sc) (disch := first | exact dd | fail) [std, e5, e7, o7, e8, efo, k6, h4, h0]
      done
  · rw [if_neg hlt] at hj
    have k6 : ¬ (at_ : Int) < b.length := by omega
    rw [← hj]
    simp (config := sc) (disch := first | exact dd | fail) [std, e5, e7, o7, e8, efo, k6]
    done

end Go.Proofs.YtkbidfohcanijaaGreat
