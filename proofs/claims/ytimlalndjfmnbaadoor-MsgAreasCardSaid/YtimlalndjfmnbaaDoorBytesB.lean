/- The document's bytes of a message, in a box. -/
import Derived.Test.YtimlalndjfmnbaaDoorBack
namespace Go.Proofs.YtimlalndjfmnbaaDoor
open BoEng Go
set_option maxRecDepth 100000
attribute [-simp] List.map_take List.map_drop List.length_flatMap
set_option linter.unusedSimpArgs false
set_option linter.unusedVariables false

def bB (xs : List UInt8) : List PV := (xs.map byteD).map .d
@[simp] theorem bB_len (xs : List UInt8) : (bB xs).length = xs.length := by simp [bB]
theorem bB_nil : bB [] = [] := rfl
theorem bB_app (xs ys : List UInt8) : bB (xs ++ ys) = bB xs ++ bB ys := by simp [bB]
theorem bB_eq (xs : List UInt8) : (xs.map byteD).map PV.d = bB xs := rfl
theorem flat_by (xs : List UInt8) : flat (xs.map byteD) = xs.map byteD := by
  induction xs with
  | nil => rfl
  | cons x xs ih => rw [List.map_cons, flat_cons, ih]; rfl
theorem all_by (xs : List UInt8) : (xs.map byteD).all isIt = true := by simp [isIt, byteD]
theorem names_by (ns : List Nat) (xs : List UInt8) : namesL ns (xs.map (PV.d ∘ byteD)) = true := by
  induction xs with
  | nil => rfl
  | cons x xs ih => simp only [List.map_cons, namesL, Function.comp, namesIn, ih, Bool.true_and]
def yU (no g : Nat) (xs : List UInt8) : Upd := ⟨no, g, bB xs, fun _ => false⟩

def b5I (m : Msg) (A : List UInt8) (fo g0 i : Nat) (S : PS) : Prop :=
  i ≤ 192 ∧ S.t 1 = .cptr (cells m.d) ∧ S.t 3 = .bsl (fo + 3) (g0 + i) (A.length + i) 1 false ∧ S.t 4 = .d (.int .i64 i) ∧ S.fo = fo ∧ S.gen (fo + 3) = g0 + i ∧ S.box (fo + 3) = bB (A ++ List.replicate i 0)
def b5J (A : List UInt8) (n fo g0 i : Nat) (S : PS) : Prop :=
  i ≤ n ∧ S.t 3 = .bsl (fo + 3) (g0 + i) (A.length + i) 1 false ∧ S.fo = fo ∧ S.gen (fo + 3) = g0 + i ∧ S.box (fo + 3) = bB (A ++ List.replicate i 0)
set_option maxHeartbeats 4000000 in
theorem ref04BytesB (m : Msg) (hn : MsgL m) (hl : m.opts.length ≤ 100) (hd : ∀ o ∈ m.opts, o.data.length ≤ 600) {fo : Nat} {gl : Nat → Nat} :
    Meets Tryd.prog fo gl 16 [.d m.d] [] (.bsl (fo + 3) (gl (fo + 3) + 204 + (300 - (hdS m).length)) (bytesS m).length 1 false) (fun _ => false) [yU (fo + 3) (gl (fo + 3) + 204 + (300 - (hdS m).length)) (bytesS m)] := by
  have hg0 : 0 < gl (fo + 3) + 204 + (300 - (hdS m).length) := by omega
  refine Meets.by (by kernel_rfl) Tryd.func16 (by kernel_rfl) rfl [20001, 2003002, 10019, 10024, 10029, 10034, 10039, 10044, 10049, 10054, 10058, 10065, 10068, 10073, 10079, 50007, 50010, 50013, 50016, 50022, 50027, 50032, 50037, 50042, 50047, 50052, 50057, 50071] (by simp) (by kernel_rfl) (by kernel_rfl) (by simp [namesIn, namesL, yU, bB, names_by, hg0]) (by simp [namesIn, namesL, yU, bB, names_by, hg0]) (by simp [yU, bB, names_by, hg0]) ?_
  conv in ccs _ => cbv
  have p4 := fun v h0 h1 => ref02PutI 4 v (by omega) h0 h1
  have p2 := fun v h0 h1 => ref02PutI 2 v (by omega) h0 h1
  have q1 := p4 m.xid hn.xid.1 (by have := hn.xid.2; omega)
  have q2 := p2 m.secs hn.secs.1 (by have := hn.secs.2; omega)
  have q3 := p2 m.flags hn.flags.1 (by have := hn.flags.2; omega)
  have q4 := p4 m.ci hn.ci.1 (by have := hn.ci.2; omega)
  have q5 := p4 m.yi hn.yi.1 (by have := hn.yi.2; omega)
  have q6 := p4 m.si hn.si.1 (by have := hn.si.2; omega)
  have q7 := p4 m.gi hn.gi.1 (by have := hn.gi.2; omega)
  have q8 := ref03WriteL m.opts hl hd
  have hch := hn.ch
  have hw : (writeO m.opts).length ≤ 120201 := by
    have := flatB_len hd
    simp only [writeO, List.length_append, List.length_cons, List.length_nil]
    omega
  obtain ⟨A, hA⟩ : ∃ A, A = [m.op, m.htype, m.hlen, m.hops].flatMap (fun v => putI v 1) ++ putI m.xid 4 ++ putI m.secs 2 ++ putI m.flags 2 ++ [m.ci, m.yi, m.si, m.gi].flatMap (fun v => putI v 4) ++ m.chaddr := ⟨_, rfl⟩
  have hAl : A.length = 44 := by rw [hA]; simp [hch]
  have hH : hdS m = A ++ List.replicate 192 0 ++ [99, 130, 83, 99] ++ writeO m.opts := by rw [hA]; rfl
  have hHl : (hdS m).length ≤ 130000 := by rw [hH]; simp; omega
  simp (config := sc) (disch := try exact dd) [std, u8_wrapB, flat_cons, flat_nil]
  refine oc q1 ?_
  simp (config := sc) (disch := try exact dd) [std, flat_by, flat_cons, flat_nil]
  refine oc q2 ?_
  simp (config := sc) (disch := try exact dd) [std, flat_by, flat_cons, flat_nil]
  refine oc q3 ?_
  simp (config := sc) (disch := try exact dd) [std, flat_by, flat_cons, flat_nil]
  refine oc q4 ?_
  simp (config := sc) (disch := try exact dd) [std, flat_by, flat_cons, flat_nil]
  refine oc q5 ?_
  simp (config := sc) (disch := try exact dd) [std, flat_by, flat_cons, flat_nil]
  refine oc q6 ?_
  simp (config := sc) (disch := try exact dd) [std, flat_by, flat_cons, flat_nil]
  refine oc q7 ?_
  simp (config := sc) (disch := try exact dd) [std, flat_by, flat_cons, flat_nil]
  refine lp (b5I m A fo (gl (fo + 3) + 10)) (fun i => 192 - i) 0 ⟨by omega, by simp (config := sc) (disch := try exact dd) [std], by simp (config := sc) (disch := try exact dd) [std, hAl, hch], by simp (config := sc) (disch := try exact dd) [std], by simp (config := sc) (disch := try exact dd) [std], by simp (config := sc) (disch := try exact dd) [std], by simp (config := sc) (disch := try exact dd) [std, hA, putI, bB]⟩ ?_
  clear q1 q2 q3 q4 q5 q6 q7 hA
  rintro i S ⟨hi, e1, e3, e4, efo, eg, eb⟩
  by_cases hlt : i < 192
  · have k6 : (i : Int) < 192 := by omega
    have hrs : bB (A ++ List.replicate (i + 1) (0 : UInt8)) = bB (A ++ List.replicate i 0) ++ [.d (.int .u8 0)] := by rw [List.replicate_succ', ← List.append_assoc, bB_app]; rfl
    have hbl : (bB (A ++ List.replicate i (0 : UInt8))).length = A.length + i := by simp
    generalize bB (A ++ List.replicate i (0 : UInt8)) = R at *
    simp (config := sc) (disch := try exact dd) [std, e1, e3, e4, efo, eg, eb, k6, flat_cons, flat_nil, hbl]
    exact nxt_of (i + 1) ⟨by omega, by simp (config := sc) (disch := try exact dd) [std, e1], by simp (config := sc) (disch := try exact dd) [std, efo]; omega, by simp (config := sc) (disch := try exact dd) [std], by simp (config := sc) (disch := try exact dd) [std, efo], by simp (config := sc) (disch := try exact dd) [std, efo]; omega, by rw [hrs]; simp (config := sc) (disch := try exact dd) [std, efo]⟩ (by omega)
  · have k6 : ¬ (i : Int) < 192 := by omega
    obtain rfl : i = 192 := by omega
    have hbH : bB (hdS m) = bB (A ++ List.replicate 192 (0 : UInt8)) ++ [.d (.int .u8 99), .d (.int .u8 130), .d (.int .u8 83), .d (.int .u8 99)] ++ bB (writeO m.opts) := by rw [hH, bB_app, bB_app]; rfl
    have hbl : (bB (A ++ List.replicate 192 (0 : UInt8))).length = A.length + 192 := by simp
    have hHn : (hdS m).length = A.length + 192 + 4 + (writeO m.opts).length := by rw [hH]; simp; omega
    unfold bytesS
    generalize hdS m = H at *
    generalize bB (A ++ List.replicate 192 (0 : UInt8)) = R at *
    have hbw : ((writeO m.opts).map byteD).map PV.d = bB (writeO m.opts) := rfl
    simp (config := sc) (disch := try exact dd) [std, e1, e3, e4, efo, eg, eb, flat_cons, flat_nil, hbl]
    refine oc q8 ?_
    simp (config := sc) (disch := try exact dd) [std, e1, e3, e4, efo, eg, eb, flat_cons, flat_nil, flat_by, hbl]
    refine lp (b5J H (300 - H.length) fo (gl (fo + 3) + 204)) (fun i => 300 - H.length - i) 0 ⟨by omega, by simp (config := sc) (disch := try exact dd) [std, hHn, hAl], by simp (config := sc) (disch := try exact dd) [std, efo], by simp (config := sc) (disch := try exact dd) [std, efo], by rw [List.replicate_zero, List.append_nil, hbH]; simp (config := sc) (disch := try exact dd) [std, efo, bB]⟩ ?_
    clear e1 e3 e4 efo eg eb hbH hbl hbw
    rintro i S ⟨hi, e3, efo, eg, eb⟩
    by_cases hlt : i < 300 - H.length
    · have k7 : (H.length : Int) + i < 300 := by omega
      have hrs : bB (H ++ List.replicate (i + 1) (0 : UInt8)) = bB (H ++ List.replicate i 0) ++ [.d (.int .u8 0)] := by rw [List.replicate_succ', ← List.append_assoc, bB_app]; rfl
      have hbl : (bB (H ++ List.replicate i (0 : UInt8))).length = H.length + i := by simp
      generalize bB (H ++ List.replicate i (0 : UInt8)) = R at *
      simp (config := sc) (disch := try exact dd) [std, e3, efo, eg, eb, k7, flat_cons, flat_nil, hbl]
      exact nxt_of (i + 1) ⟨by omega, by simp (config := sc) (disch := try exact dd) [std, efo]; omega, by simp (config := sc) (disch := try exact dd) [std, efo], by simp (config := sc) (disch := try exact dd) [std, efo]; omega, by rw [hrs]; simp (config := sc) (disch := try exact dd) [std, efo]⟩ (by omega)
    · have k7 : ¬ (H.length : Int) + i < 300 := by omega
      obtain rfl : i = 300 - H.length := by omega
      simp (config := sc) (disch := try exact dd) [std, e3, efo, eg, eb, k7, yU]
      done
end Go.Proofs.YtimlalndjfmnbaaDoor
