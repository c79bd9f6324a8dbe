/- A message that is read: msg.Read. -/
import Derived.Test.YtimlalndjfmnbaaDoorMsgP
namespace Go.Proofs.YtimlalndjfmnbaaDoor
open BoEng Go
set_option maxRecDepth 100000
attribute [-simp] List.map_take List.map_drop List.length_flatMap
set_option linter.unusedSimpArgs false
set_option linter.unusedVariables false

def vAt (b : List UInt8) (a n : Nat) : Int := valB ((b.drop a).take n)
def hdM (b : List UInt8) (l : List Opt) : Msg := ⟨vAt b 0 1, vAt b 1 1, vAt b 2 1, vAt b 3 1, vAt b 4 4, vAt b 8 2, vAt b 10 2, vAt b 12 4, vAt b 16 4, vAt b 20 4, vAt b 24 4, (b.take 44).drop 28, l⟩
def m0 : Msg := ⟨0, 0, 0, 0, 0, 0, 0, 0, 0, 0, 0, [], []⟩
def rdM (b : List UInt8) : Int × Msg :=
  if b.length < 240 then (4, m0) else if 1500 < b.length then (3, m0) else if vAt b 236 4 ≠ 1669485411 ∨ 16 < vAt b 2 1 then (2, m0) else
  if (optsS b).1 ≠ 0 then ((optsS b).1, m0) else (0, hdM b (optsS b).2)
theorem getV_at (b : List UInt8) (h : 240 ≤ b.length) (a n : Nat) (h1 : 1 ≤ n) (h7 : n ≤ 7) (h2 : a + n ≤ 240) : getV b a n = vAt b a n := by
  have : getE b a n = 0 := by
    unfold getE
    rw [if_neg (by omega), if_neg (by omega)]
  simp only [getV, this, if_true, Int.toNat_natCast, vAt]

theorem msgGet (b : List UInt8) (hb : 240 ≤ b.length) (hb2 : b.length ≤ 1000000) (at_ n : Nat) (h1 : 1 ≤ n) (h7 : n ≤ 7) (h2 : at_ + n ≤ 240) (no g : Nat) {fo : Nat} {gl : Nat → Nat} (hno : no < fo) (hg : 0 < g) :
    Meets Tryd.prog fo gl 38 [.d (.int .i64 n), .cptr [.slice (b.map byteD)], .ptr no g 0] [⟨no, g, [.d (.int .i64 at_)], fun _ => false⟩] (.d (.int .i64 (vAt b at_ n))) (fun _ => false) [⟨no, g, [.d (.int .i64 ((at_ + n : Nat) : Int))], fun _ => false⟩] := by
  rw [← getV_at b hb at_ n h1 h7 h2]
  refine Meets.by (by kernel_rfl) Tryd.func38 (by kernel_rfl) rfl [] (by simp) (by kernel_rfl) (by kernel_rfl) (by simp [namesIn, namesL, hg]) (by simp [namesIn, namesL, hg]) (by simp [hg]) ?_
  conv in ccs _ => cbv
  have hk1 : ∀ k, (no = fo + k) = False := fun k => by simp; omega
  have hk2 : ∀ k, (fo + k = no) = False := fun k => by simp; omega
  have q := codeGet b at_ n (by omega)
  simp (config := sc) (disch := try exact dd) [std, hk1, hk2]
  refine oc q ?_
  simp (config := sc) (disch := try exact dd) [std, hk1, hk2]
  done

set_option maxHeartbeats 4000000 in
theorem msgRead (hnum : ∀ v n, ErrIs v n → n ≠ 0 → Holds Tryd.prog 41 [.d (.opq v)] (.d (.int .i64 n)) (fun _ => false)) (b : List UInt8) (hl : b.length ≤ 100000) : Holds Tryd.prog 17 [.d (.slice (b.map byteD))] (.tup [.d (rdM b).2.d, .d (.int .i64 (rdM b).1)]) (fun _ => false) := by
  refine Holds.by (by kernel_rfl) Tryd.func17 (by kernel_rfl) rfl [20001, 40019, 40022, 40024, 40028, 40030, 40034, 40036, 40040, 40042, 40046, 40048, 40060] (by simp) (by kernel_rfl) (by kernel_rfl) rfl ?_
  conv in ccs _ => cbv
  unfold rdM
  by_cases h1 : b.length < 240
  · rw [if_pos h1]
    have h1' : (b.length : Int) < 240 := by omega
    simp (config := sc) (disch := try exact dd) [std, h1', m0]
    done
  have h1' : ¬ (b.length : Int) < 240 := by omega
  rw [if_neg h1]
  by_cases h2 : 1500 < b.length
  · rw [if_pos h2]
    have h2' : 1500 < (b.length : Int) := by omega
    simp (config := sc) (disch := try exact dd) [std, h1', h2', m0]
    done
  have h2' : ¬ 1500 < (b.length : Int) := by omega
  rw [if_neg h2]
  have h44 : (44 : Int) ≤ b.length := by omega
  have q0 := fun gl => @msgGet b (by omega) (by omega) 0 1 (by omega) (by omega) (by omega) (FO + 4) 1 (FO + 1000) gl (by decide) (by omega)
  have q1 := fun gl => @msgGet b (by omega) (by omega) 1 1 (by omega) (by omega) (by omega) (FO + 4) 1 (FO + 1000) gl (by decide) (by omega)
  have q2 := fun gl => @msgGet b (by omega) (by omega) 2 1 (by omega) (by omega) (by omega) (FO + 4) 1 (FO + 1000) gl (by decide) (by omega)
  have q3 := fun gl => @msgGet b (by omega) (by omega) 3 1 (by omega) (by omega) (by omega) (FO + 4) 1 (FO + 1000) gl (by decide) (by omega)
  have q4 := fun gl => @msgGet b (by omega) (by omega) 4 4 (by omega) (by omega) (by omega) (FO + 4) 1 (FO + 1000) gl (by decide) (by omega)
  have q5 := fun gl => @msgGet b (by omega) (by omega) 8 2 (by omega) (by omega) (by omega) (FO + 4) 1 (FO + 1000) gl (by decide) (by omega)
  have q6 := fun gl => @msgGet b (by omega) (by omega) 10 2 (by omega) (by omega) (by omega) (FO + 4) 1 (FO + 1000) gl (by decide) (by omega)
  have q7 := fun gl => @msgGet b (by omega) (by omega) 12 4 (by omega) (by omega) (by omega) (FO + 4) 1 (FO + 1000) gl (by decide) (by omega)
  have q8 := fun gl => @msgGet b (by omega) (by omega) 16 4 (by omega) (by omega) (by omega) (FO + 4) 1 (FO + 1000) gl (by decide) (by omega)
  have q9 := fun gl => @msgGet b (by omega) (by omega) 20 4 (by omega) (by omega) (by omega) (FO + 4) 1 (FO + 1000) gl (by decide) (by omega)
  have q10 := fun gl => @msgGet b (by omega) (by omega) 24 4 (by omega) (by omega) (by omega) (FO + 4) 1 (FO + 1000) gl (by decide) (by omega)
  have q11 := fun gl => @msgGet b (by omega) (by omega) 236 4 (by omega) (by omega) (by omega) (FO + 4) 1 (FO + 1000) gl (by decide) (by omega)
  obtain ⟨v, hv, qo⟩ := msgOptions b (by omega) (by omega)
  unfold hdM
  generalize (optsS b).2 = os at *
  generalize (optsS b).1 = oe at *
  generalize vAt b 0 1 = v0 at *
  generalize vAt b 1 1 = v1 at *
  generalize vAt b 2 1 = v2 at *
  generalize vAt b 3 1 = v3 at *
  generalize vAt b 4 4 = v4 at *
  generalize vAt b 8 2 = v5 at *
  generalize vAt b 10 2 = v6 at *
  generalize vAt b 12 4 = v7 at *
  generalize vAt b 16 4 = v8 at *
  generalize vAt b 20 4 = v9 at *
  generalize vAt b 24 4 = v10 at *
  generalize vAt b 236 4 = v11 at *
  simp (config := sc) (disch := try exact dd) [std, h1', h2']
  refine o_cb (FO + 1000) rfl rfl (q0 _) rfl (by simp (config := sc) (disch := try exact dd) [std]) ?_
  simp (config := sc) (disch := try exact dd) [std, h44]
  refine o_cb (FO + 1000) rfl rfl (q1 _) rfl (by simp (config := sc) (disch := try exact dd) [std]) ?_
  simp (config := sc) (disch := try exact dd) [std, h44]
  refine o_cb (FO + 1000) rfl rfl (q2 _) rfl (by simp (config := sc) (disch := try exact dd) [std]) ?_
  simp (config := sc) (disch := try exact dd) [std, h44]
  refine o_cb (FO + 1000) rfl rfl (q3 _) rfl (by simp (config := sc) (disch := try exact dd) [std]) ?_
  simp (config := sc) (disch := try exact dd) [std, h44]
  refine o_cb (FO + 1000) rfl rfl (q4 _) rfl (by simp (config := sc) (disch := try exact dd) [std]) ?_
  simp (config := sc) (disch := try exact dd) [std, h44]
  refine o_cb (FO + 1000) rfl rfl (q5 _) rfl (by simp (config := sc) (disch := try exact dd) [std]) ?_
  simp (config := sc) (disch := try exact dd) [std, h44]
  refine o_cb (FO + 1000) rfl rfl (q6 _) rfl (by simp (config := sc) (disch := try exact dd) [std]) ?_
  simp (config := sc) (disch := try exact dd) [std, h44]
  refine o_cb (FO + 1000) rfl rfl (q7 _) rfl (by simp (config := sc) (disch := try exact dd) [std]) ?_
  simp (config := sc) (disch := try exact dd) [std, h44]
  refine o_cb (FO + 1000) rfl rfl (q8 _) rfl (by simp (config := sc) (disch := try exact dd) [std]) ?_
  simp (config := sc) (disch := try exact dd) [std, h44]
  refine o_cb (FO + 1000) rfl rfl (q9 _) rfl (by simp (config := sc) (disch := try exact dd) [std]) ?_
  simp (config := sc) (disch := try exact dd) [std, h44]
  refine o_cb (FO + 1000) rfl rfl (q10 _) rfl (by simp (config := sc) (disch := try exact dd) [std]) ?_
  simp (config := sc) (disch := try exact dd) [std, h44]
  refine o_cb (FO + 1000) rfl rfl (q11 _) rfl (by simp (config := sc) (disch := try exact dd) [std]) ?_
  simp (config := sc) (disch := try exact dd) [std, h44]
  by_cases h3 : v11 = 1669485411
  · by_cases h4 : 16 < v2
    · rw [if_pos (.inr h4)]
      simp (config := sc) (disch := try exact dd) [std, h3, h4, m0]
      done
    · rw [if_neg (by omega)]
      simp (config := sc) (disch := try exact dd) [std, h3, h4]
      refine oc qo ?_
      by_cases h5 : oe = 0
      · subst h5
        have e1 := hv.z
        subst e1
        rw [if_pos rfl]
        simp (config := sc) (disch := try exact dd) [std]
        done
      · rw [if_neg h5]
        have q5 := hnum v oe hv h5
        obtain ⟨t, u, rfl⟩ := hv.nz h5
        simp (config := sc) (disch := try exact dd) [std]
        refine oc q5 ?_
        simp (config := sc) (disch := try exact dd) [std, m0]
        done
  · rw [if_pos (.inl h3)]
    simp (config := sc) (disch := try exact dd) [std, h3, m0]
    done
end Go.Proofs.YtimlalndjfmnbaaDoor
