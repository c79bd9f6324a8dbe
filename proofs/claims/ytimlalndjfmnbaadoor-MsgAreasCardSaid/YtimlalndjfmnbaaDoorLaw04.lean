/- Chapter 4's laws: the examples; which messages are right, how they are written, how bytes are read. -/
import Derived.Test.YtimlalndjfmnbaaDoorRef4b
import Derived.Test.YtimlalndjfmnbaaDoorNum5
import Derived.Test.YtimlalndjfmnbaaDoorWire
import Derived.Test.YtimlalndjfmnbaaDoorGreat
import Derived.Test.YtimlalndjfmnbaaDoorMsgT
namespace Go.Proofs.YtimlalndjfmnbaaDoor
open BoEng Go
set_option maxRecDepth 100000
attribute [-simp] List.map_take List.map_drop List.length_flatMap
set_option linter.unusedSimpArgs false
set_option linter.unusedVariables false

theorem msgReadN (b : List UInt8) (hl : b.length ≤ 100000) : Holds Tryd.prog 17 [.d (.slice (b.map byteD))] (.tup [.d (rdM b).2.d, .d (.int .i64 (rdM b).1)]) (fun _ => false) := msgRead msgNumber b hl

def s3I (l : List Opt) (i : Nat) (S : PS) : Prop :=
  i ≤ l.length ∧ S.t 0 = .d (.slice (l.map Opt.d)) ∧ S.t 1 = .d (.slice (l.map Opt.d)) ∧ S.t 5 = .d (.int .i64 i)
theorem same03 (l : List Opt) (hl : l.length ≤ 9223372036854775807) : Holds Tryd.prog 25 [.d (.slice (l.map Opt.d)), .d (.slice (l.map Opt.d))] (.d (.bool true)) (fun _ => false) := by
  refine Holds.by (by kernel_rfl) Tryd.func25 (by kernel_rfl) rfl [] (by simp) (by kernel_rfl) (by kernel_rfl) rfl ?_
  conv in ccs _ => cbv
  simp (config := sc) (disch := try exact dd) [std]
  refine lp (s3I l) (fun i => l.length - i) 0 ⟨by omega, by simp⟩ ?_
  rintro i S ⟨hi, e0, e1, e5⟩
  by_cases hlt : i < l.length
  · have k6 : (i : Int) < l.length := by omega
    simp (config := sc) (disch := try exact dd) [std, e0, e1, e5, k6]
    exact nxt_of (i + 1) ⟨by omega, by simp (config := sc) (disch := try exact dd) [*, std]⟩ (by omega)
  · have k6 : ¬ (i : Int) < l.length := by omega
    simp (config := sc) (disch := try exact dd) [std, e0, e1, e5, k6]

theorem same04 (m : Msg) (hl : m.opts.length ≤ 9223372036854775807) : Holds Tryd.prog 19 [.d m.d, .d m.d] (.d (.bool true)) (fun _ => false) := by
  refine Holds.by (by kernel_rfl) Tryd.func19 (by kernel_rfl) rfl [20002, 20003] (by simp) (by kernel_rfl) (by kernel_rfl) rfl ?_
  conv in ccs _ => cbv
  simp (config := sc) (disch := try exact dd) [std]
  refine oc (same03 m.opts hl) ?_
  simp (config := sc) (disch := try exact dd) [std]

/-! the examples -/
def mK4 : Msg := ⟨0, 0, 0, 0, 0, 0, 0, 0, 0, 0, 0, [0, 0, 0, 0, 0, 0, 0, 0, 0, 0, 0, 0, 0, 0, 0, 0], [⟨53, [1]⟩]⟩
def bK4 : List UInt8 := List.replicate 236 0 ++ [99, 130, 83, 99, 53, 1, 1, 255] ++ List.replicate 56 0
theorem k4o : writeO mK4.opts = [53, 1, 1, 255] := by
  unfold writeO
  show oneW 53 [1] ++ ([] : List UInt8) ++ [255] = _
  rw [oneS_le (by decide)]
  kernel_rfl
def hK4 : List UInt8 := List.replicate 236 0 ++ [99, 130, 83, 99, 53, 1, 1, 255]
theorem k4h0 : [mK4.op, mK4.htype, mK4.hlen, mK4.hops].flatMap (fun v => putI v 1) ++ putI mK4.xid 4 ++ putI mK4.secs 2 ++ putI mK4.flags 2 ++ [mK4.ci, mK4.yi, mK4.si, mK4.gi].flatMap (fun v => putI v 4) = List.replicate 28 0 := by kernel_rfl
theorem k4x : (if rightM mK4 = false then (([], 1) : List UInt8 × Int) else if 1500 < hK4.length then ([], 3) else (hK4 ++ List.replicate (300 - hK4.length) 0, 0)) = (bK4, 0) := by kernel_rfl
theorem k4h : hdS mK4 = hK4 := by
  unfold hdS
  rw [k4o, k4h0]
  decide
theorem k4w : writeM mK4 = (bK4, 0) := by
  have h : writeM mK4 = (if rightM mK4 = false then (([], 1) : List UInt8 × Int) else if 1500 < (hdS mK4).length then ([], 3) else (hdS mK4 ++ List.replicate (300 - (hdS mK4).length) 0, 0)) := rfl
  rw [h, k4h]
  exact k4x
theorem k4r : rdM bK4 = (0, mK4) := by kernel_rfl
theorem k4m : rightM mK4 = true := by kernel_rfl
theorem k4l : bK4.length = 300 := by kernel_rfl
theorem k4s : (bK4.take 244).drop 236 = [99, 130, 83, 99, 53, 1, 1, 255] := by kernel_rfl
theorem mK4_sized : sizedM mK4 := ⟨by simp [mK4], by simp [mK4], by simp [mK4]⟩
theorem knows4 : Holds Tryd.prog 11 [] (.d (.bool true)) (fun _ => false) := by
  refine Holds.by (by kernel_rfl) Tryd.func11 (by kernel_rfl) rfl [20006] (by simp) (by kernel_rfl) (by kernel_rfl) rfl ?_
  conv in ccs _ => cbv
  have q1 := msgWrite mK4 mK4_sized
  have q2 := msgReadN bK4 (by rw [k4l]; decide)
  have q3 := msgRight mK4 mK4_sized
  have q4 := lawAsM mK4
  have q5 := same04 mK4 (by simp [mK4])
  have hl : (bK4.length : Int) = 300 := by rw [k4l]; rfl
  have hs := k4s
  rw [k4w] at q1
  rw [k4r] at q2
  rw [k4m] at q3
  generalize bK4 = b at *
  simp (config := sc) (disch := try exact dd) [std]
  rw [o_mkF (n := 16) (z := .int .u8 0) (by simp) (by simp)]
  simp (config := sc) (disch := try exact dd) [std]
  refine oc q1 ?_
  simp (config := sc) (disch := try exact dd) [std]
  refine oc q2 ?_
  simp (config := sc) (disch := try exact dd) [std, hl, hs, mK4]
  refine oc q4 ?_
  simp (config := sc) (disch := try exact dd) [std, mK4]
  refine oc q4 ?_
  simp (config := sc) (disch := try exact dd) [std, mK4]
  refine oc q5 ?_
  simp (config := sc) (disch := try exact dd) [std, mK4]
  refine oc q3 ?_
  simp (config := sc) (disch := try exact dd) [std, mK4]
  done
end Go.Proofs.YtimlalndjfmnbaaDoor
