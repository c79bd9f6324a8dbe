/- The rows of chapter 18: each law answers true for every input, and leaves its arguments as they were. -/
import Derived.Test.YtgkgnpgbdeoddaaRows
import Derived.Test.YtgkgnpgbdeoddaaLaw18
import Derived.WalkKit
import Derived.ProofKit
import Derived.OpenShut
import Derived.ShutString
import Derived.ChangeOld
import Derived.Below
namespace Go.Proofs.Ytgkgnpgbdeoddaa
open BoEng Go Go.RowKit Go.ChangeShapes Go.WideShapes Go.ChangeAt
set_option maxRecDepth 100000
set_option linter.unusedVariables false

theorem own : ownKnob Try.prog.godebug = none := by kernel_rfl
theorem laidOut : laidOutB Try.prog = true := by kernel_rfl

theorem int_of {n : Nat} {x : DV} (h : typD Try.prog n 3 x) : ∃ i : Int, x = .int .i64 i ∧ inI i := by
  obtain ⟨ds, h, rfl⟩ := h
  obtain ⟨i, rfl, hi⟩ := typC_int und3 h
  exact ⟨i, by simp [mkD], hi⟩

namespace replyMakes
theorem lifted (os : Os) (started : os.Started) (H : Type) (enc : TypeId × Value → H) :
    ReturnsInHanded {} Try.checked os 3 .any (Rows.replyMakesSpec.pre6 enc Try.prog Try.f3 Rows.replyMakesRow.domain false) (Rows.replyMakesSpec.post enc Try.prog Try.f3 false true false false) := by
  refine returnsInHanded_of_change (C := Try.checked) own started (by kernel_rfl) Try.func3
    (ChangeSpec.witness6 (enc := enc) (C := Try.checked) false ⟨#[], #[.agg #[.int .i64 0, .int .i64 0, .slice none 0 0], .int .i64 0, .int .i64 0, .agg #[.int .i64 0, .int .i64 0, .int .i64 0, .int .i64 0, .int .i64 0, .int .i64 0, .int .i64 0, .int .i64 0, .int .i64 0, .int .i64 0, .int .i64 0, .slice none 0 0, .slice none 0 0], .int .i64 0, .int .i64 0], []⟩ 8 (by kernel_rfl) (by kernel_rfl) (by kernel_rfl) (by kernel_rfl)) ?_
  intro W base args ds gs before hval0 hW hcnd _
  have hval : ∀ (j : Nat) t v, Try.f3.params[j]? = some t → args[j]? = some v → Value.okWide Try.prog W .any base t v := hval0
  have hW' := hW
  obtain ⟨p, q, hA0, hV, rfl, hfz, hnd⟩ := hW
  have hA : DataW.TrodAll enc Try.prog W 0 (fun _ => true) true Try.f3.params.toList args.toList ds p := hA0
  rw [Try.params3] at hA hval
  obtain ⟨a0, as0, d0, ds0, p0, q0, hargs, rfl, rfl, h0, r0⟩ := trodAll_cons hA
  obtain ⟨a1, as1, d1, ds1, p1, q1, rfl, rfl, rfl, h1, r1⟩ := trodAll_cons r0
  obtain ⟨a2, as2, d2, ds2, p2, q2, rfl, rfl, rfl, h2, r2⟩ := trodAll_cons r1
  obtain ⟨a3, as3, d3, ds3, p3, q3, rfl, rfl, rfl, h3, r3⟩ := trodAll_cons r2
  obtain ⟨a4, as4, d4, ds4, p4, q4, rfl, rfl, rfl, h4, r4⟩ := trodAll_cons r3
  obtain ⟨a5, as5, d5, ds5, p5, q5, rfl, rfl, rfl, h5, r5⟩ := trodAll_cons r4
  obtain ⟨rfl, rfl, rfl⟩ := trodAll_nil r5
  obtain rfl : args = #[a0, a1, a2, a3, a4, a5] := by cases args; simp_all
  obtain ⟨rfl, rfl⟩ := trodVars_none hV
  obtain ⟨x0, t0, e0⟩ := opensV (n := 8) (by kernel_rfl) (hval 0 24 a0 rfl rfl) h0
  obtain ⟨x1, t1, e1⟩ := opensV (n := 8) (by kernel_rfl) (hval 1 3 a1 rfl rfl) h1
  obtain ⟨x2, t2, e2⟩ := opensV (n := 8) (by kernel_rfl) (hval 2 3 a2 rfl rfl) h2
  obtain ⟨x3, t3, e3⟩ := opensV (n := 8) (by kernel_rfl) (hval 3 28 a3 rfl rfl) h3
  obtain ⟨x4, t4, e4⟩ := opensV (n := 8) (by kernel_rfl) (hval 4 3 a4 rfl rfl) h4
  obtain ⟨x5, t5, e5⟩ := opensV (n := 8) (by kernel_rfl) (hval 5 3 a5 rfl rfl) h5
  obtain ⟨v0, rfl, k0⟩ := cfg_of t0
  obtain ⟨v1, rfl, k1⟩ := int_of t1
  obtain ⟨v2, rfl, k2⟩ := int_of t2
  obtain ⟨v3, rfl, k3⟩ := msg_of t3
  obtain ⟨v4, rfl, k4⟩ := int_of t4
  obtain ⟨v5, rfl, k5⟩ := int_of t5
  have lt0 : ∀ x ∈ p0, x.block < W.heap.size := by obtain ⟨m, hm⟩ := h0; exact DataW.trod_lt m _ _ _ hm
  have lt1 : ∀ x ∈ p1, x.block < W.heap.size := by obtain ⟨m, hm⟩ := h1; exact DataW.trod_lt m _ _ _ hm
  have lt2 : ∀ x ∈ p2, x.block < W.heap.size := by obtain ⟨m, hm⟩ := h2; exact DataW.trod_lt m _ _ _ hm
  have lt3 : ∀ x ∈ p3, x.block < W.heap.size := by obtain ⟨m, hm⟩ := h3; exact DataW.trod_lt m _ _ _ hm
  have lt4 : ∀ x ∈ p4, x.block < W.heap.size := by obtain ⟨m, hm⟩ := h4; exact DataW.trod_lt m _ _ _ hm
  have lt5 : ∀ x ∈ p5, x.block < W.heap.size := by obtain ⟨m, hm⟩ := h5; exact DataW.trod_lt m _ _ _ hm
  refine (Holds.walk (args := [v0.d, (.int .i64 v1), (.int .i64 v2), v3.d, (.int .i64 v4), (.int .i64 v5)]) (lawMakes v0 v1 v2 v3 v4 v5 k3) (vs := #[a0, a1, a2, a3, a4, a5]) (w := W) rfl ?_).mono fun e W' ⟨he, bel⟩ => ?_
  · intro i v p hv hp
    match i, hv, hp with
    | 0, hv, hp => cases hv; cases hp; exact e0
    | 1, hv, hp => cases hv; cases hp; exact e1
    | 2, hv, hp => cases hv; cases hp; exact e2
    | 3, hv, hp => cases hv; cases hp; exact e3
    | 4, hv, hp => cases hv; cases hp; exact e4
    | 5, hv, hp => cases hv; cases hp; exact e5
    | n + 6, hv, hp => simp at hp
  subst he
  exact ⟨_, rfl, _, _, _, [], _, [], hW', trodAll_mk1 (shut_bool Try.underlying4 _), (trodAll_cons_mk (Below.trod laidOut (by kernel_rfl) (of_decide_eq_true (by kernel_rfl)) h0 bel lt0) (trodAll_cons_mk (Below.trod laidOut (by kernel_rfl) (of_decide_eq_true (by kernel_rfl)) h1 bel lt1) (trodAll_cons_mk (Below.trod laidOut (by kernel_rfl) (of_decide_eq_true (by kernel_rfl)) h2 bel lt2) (trodAll_cons_mk (Below.trod laidOut (by kernel_rfl) (of_decide_eq_true (by kernel_rfl)) h3 bel lt3) (trodAll_cons_mk (Below.trod laidOut (by kernel_rfl) (of_decide_eq_true (by kernel_rfl)) h4 bel lt4) (trodAll_cons_mk (Below.trod laidOut (by kernel_rfl) (of_decide_eq_true (by kernel_rfl)) h5 bel lt5) trodAll_mk0)))))), rfl, bel.frame _, fun h => by cases h⟩
theorem over : Rows.replyMakesRow.holds Try.pinned (OpenSpec.ofChange Rows.replyMakesSpec) :=
  OpenClaim.holds_of_wide 3 Try.f3 rfl rfl rfl rfl rfl rfl rfl ⟨rfl, rfl, rfl, rfl, rfl⟩ rfl rfl rfl rfl rfl (by kernel_rfl) Try.func3 (by kernel_rfl)
    (of_decide_eq_true (by kernel_rfl)) (by unfold Func.isWrapper; first | (rw [if_pos (by decide +kernel)]; kernel_rfl) | (rw [if_neg (by decide +kernel)]; exact ⟨rfl, rfl⟩))
    (fun os started H enc _ => lifted os started H enc)
theorem proved : Rows.ReplyMakesSaid := over
end replyMakes

namespace replyEchoes
theorem lifted (os : Os) (started : os.Started) (H : Type) (enc : TypeId × Value → H) :
    ReturnsInHanded {} Try.checked os 4 .any (Rows.replyEchoesSpec.pre6 enc Try.prog Try.f4 Rows.replyEchoesRow.domain false) (Rows.replyEchoesSpec.post enc Try.prog Try.f4 false true false false) := by
  refine returnsInHanded_of_change (C := Try.checked) own started (by kernel_rfl) Try.func4
    (ChangeSpec.witness6 (enc := enc) (C := Try.checked) false ⟨#[], #[.agg #[.int .i64 0, .int .i64 0, .slice none 0 0], .int .i64 0, .int .i64 0, .agg #[.int .i64 0, .int .i64 0, .int .i64 0, .int .i64 0, .int .i64 0, .int .i64 0, .int .i64 0, .int .i64 0, .int .i64 0, .int .i64 0, .int .i64 0, .slice none 0 0, .slice none 0 0], .int .i64 0, .int .i64 0], []⟩ 8 (by kernel_rfl) (by kernel_rfl) (by kernel_rfl) (by kernel_rfl)) ?_
  intro W base args ds gs before hval0 hW hcnd _
  have hval : ∀ (j : Nat) t v, Try.f4.params[j]? = some t → args[j]? = some v → Value.okWide Try.prog W .any base t v := hval0
  have hW' := hW
  obtain ⟨p, q, hA0, hV, rfl, hfz, hnd⟩ := hW
  have hA : DataW.TrodAll enc Try.prog W 0 (fun _ => true) true Try.f4.params.toList args.toList ds p := hA0
  rw [Try.params4] at hA hval
  obtain ⟨a0, as0, d0, ds0, p0, q0, hargs, rfl, rfl, h0, r0⟩ := trodAll_cons hA
  obtain ⟨a1, as1, d1, ds1, p1, q1, rfl, rfl, rfl, h1, r1⟩ := trodAll_cons r0
  obtain ⟨a2, as2, d2, ds2, p2, q2, rfl, rfl, rfl, h2, r2⟩ := trodAll_cons r1
  obtain ⟨a3, as3, d3, ds3, p3, q3, rfl, rfl, rfl, h3, r3⟩ := trodAll_cons r2
  obtain ⟨a4, as4, d4, ds4, p4, q4, rfl, rfl, rfl, h4, r4⟩ := trodAll_cons r3
  obtain ⟨a5, as5, d5, ds5, p5, q5, rfl, rfl, rfl, h5, r5⟩ := trodAll_cons r4
  obtain ⟨rfl, rfl, rfl⟩ := trodAll_nil r5
  obtain rfl : args = #[a0, a1, a2, a3, a4, a5] := by cases args; simp_all
  obtain ⟨rfl, rfl⟩ := trodVars_none hV
  obtain ⟨x0, t0, e0⟩ := opensV (n := 8) (by kernel_rfl) (hval 0 24 a0 rfl rfl) h0
  obtain ⟨x1, t1, e1⟩ := opensV (n := 8) (by kernel_rfl) (hval 1 3 a1 rfl rfl) h1
  obtain ⟨x2, t2, e2⟩ := opensV (n := 8) (by kernel_rfl) (hval 2 3 a2 rfl rfl) h2
  obtain ⟨x3, t3, e3⟩ := opensV (n := 8) (by kernel_rfl) (hval 3 28 a3 rfl rfl) h3
  obtain ⟨x4, t4, e4⟩ := opensV (n := 8) (by kernel_rfl) (hval 4 3 a4 rfl rfl) h4
  obtain ⟨x5, t5, e5⟩ := opensV (n := 8) (by kernel_rfl) (hval 5 3 a5 rfl rfl) h5
  obtain ⟨v0, rfl, k0⟩ := cfg_of t0
  obtain ⟨v1, rfl, k1⟩ := int_of t1
  obtain ⟨v2, rfl, k2⟩ := int_of t2
  obtain ⟨v3, rfl, k3⟩ := msg_of t3
  obtain ⟨v4, rfl, k4⟩ := int_of t4
  obtain ⟨v5, rfl, k5⟩ := int_of t5
  have lt0 : ∀ x ∈ p0, x.block < W.heap.size := by obtain ⟨m, hm⟩ := h0; exact DataW.trod_lt m _ _ _ hm
  have lt1 : ∀ x ∈ p1, x.block < W.heap.size := by obtain ⟨m, hm⟩ := h1; exact DataW.trod_lt m _ _ _ hm
  have lt2 : ∀ x ∈ p2, x.block < W.heap.size := by obtain ⟨m, hm⟩ := h2; exact DataW.trod_lt m _ _ _ hm
  have lt3 : ∀ x ∈ p3, x.block < W.heap.size := by obtain ⟨m, hm⟩ := h3; exact DataW.trod_lt m _ _ _ hm
  have lt4 : ∀ x ∈ p4, x.block < W.heap.size := by obtain ⟨m, hm⟩ := h4; exact DataW.trod_lt m _ _ _ hm
  have lt5 : ∀ x ∈ p5, x.block < W.heap.size := by obtain ⟨m, hm⟩ := h5; exact DataW.trod_lt m _ _ _ hm
  refine (Holds.walk (args := [v0.d, (.int .i64 v1), (.int .i64 v2), v3.d, (.int .i64 v4), (.int .i64 v5)]) (lawEchoes v0 v1 v2 v3 v4 v5 k3) (vs := #[a0, a1, a2, a3, a4, a5]) (w := W) rfl ?_).mono fun e W' ⟨he, bel⟩ => ?_
  · intro i v p hv hp
    match i, hv, hp with
    | 0, hv, hp => cases hv; cases hp; exact e0
    | 1, hv, hp => cases hv; cases hp; exact e1
    | 2, hv, hp => cases hv; cases hp; exact e2
    | 3, hv, hp => cases hv; cases hp; exact e3
    | 4, hv, hp => cases hv; cases hp; exact e4
    | 5, hv, hp => cases hv; cases hp; exact e5
    | n + 6, hv, hp => simp at hp
  subst he
  exact ⟨_, rfl, _, _, _, [], _, [], hW', trodAll_mk1 (shut_bool Try.underlying4 _), (trodAll_cons_mk (Below.trod laidOut (by kernel_rfl) (of_decide_eq_true (by kernel_rfl)) h0 bel lt0) (trodAll_cons_mk (Below.trod laidOut (by kernel_rfl) (of_decide_eq_true (by kernel_rfl)) h1 bel lt1) (trodAll_cons_mk (Below.trod laidOut (by kernel_rfl) (of_decide_eq_true (by kernel_rfl)) h2 bel lt2) (trodAll_cons_mk (Below.trod laidOut (by kernel_rfl) (of_decide_eq_true (by kernel_rfl)) h3 bel lt3) (trodAll_cons_mk (Below.trod laidOut (by kernel_rfl) (of_decide_eq_true (by kernel_rfl)) h4 bel lt4) (trodAll_cons_mk (Below.trod laidOut (by kernel_rfl) (of_decide_eq_true (by kernel_rfl)) h5 bel lt5) trodAll_mk0)))))), rfl, bel.frame _, fun h => by cases h⟩
theorem over : Rows.replyEchoesRow.holds Try.pinned (OpenSpec.ofChange Rows.replyEchoesSpec) :=
  OpenClaim.holds_of_wide 4 Try.f4 rfl rfl rfl rfl rfl rfl rfl ⟨rfl, rfl, rfl, rfl, rfl⟩ rfl rfl rfl rfl rfl (by kernel_rfl) Try.func4 (by kernel_rfl)
    (of_decide_eq_true (by kernel_rfl)) (by unfold Func.isWrapper; first | (rw [if_pos (by decide +kernel)]; kernel_rfl) | (rw [if_neg (by decide +kernel)]; exact ⟨rfl, rfl⟩))
    (fun os started H enc _ => lifted os started H enc)
theorem proved : Rows.ReplyEchoesSaid := over
end replyEchoes

namespace replyGives
theorem lifted (os : Os) (started : os.Started) (H : Type) (enc : TypeId × Value → H) :
    ReturnsInHanded {} Try.checked os 5 .any (Rows.replyGivesSpec.pre6 enc Try.prog Try.f5 Rows.replyGivesRow.domain false) (Rows.replyGivesSpec.post enc Try.prog Try.f5 false true false false) := by
  refine returnsInHanded_of_change (C := Try.checked) own started (by kernel_rfl) Try.func5
    (ChangeSpec.witness6 (enc := enc) (C := Try.checked) false ⟨#[], #[.agg #[.int .i64 0, .int .i64 0, .slice none 0 0], .int .i64 0, .int .i64 0, .agg #[.int .i64 0, .int .i64 0, .int .i64 0, .int .i64 0, .int .i64 0, .int .i64 0, .int .i64 0, .int .i64 0, .int .i64 0, .int .i64 0, .int .i64 0, .slice none 0 0, .slice none 0 0], .int .i64 0, .int .i64 0], []⟩ 8 (by kernel_rfl) (by kernel_rfl) (by kernel_rfl) (by kernel_rfl)) ?_
  intro W base args ds gs before hval0 hW hcnd _
  have hval : ∀ (j : Nat) t v, Try.f5.params[j]? = some t → args[j]? = some v → Value.okWide Try.prog W .any base t v := hval0
  have hW' := hW
  obtain ⟨p, q, hA0, hV, rfl, hfz, hnd⟩ := hW
  have hA : DataW.TrodAll enc Try.prog W 0 (fun _ => true) true Try.f5.params.toList args.toList ds p := hA0
  rw [Try.params5] at hA hval
  obtain ⟨a0, as0, d0, ds0, p0, q0, hargs, rfl, rfl, h0, r0⟩ := trodAll_cons hA
  obtain ⟨a1, as1, d1, ds1, p1, q1, rfl, rfl, rfl, h1, r1⟩ := trodAll_cons r0
  obtain ⟨a2, as2, d2, ds2, p2, q2, rfl, rfl, rfl, h2, r2⟩ := trodAll_cons r1
  obtain ⟨a3, as3, d3, ds3, p3, q3, rfl, rfl, rfl, h3, r3⟩ := trodAll_cons r2
  obtain ⟨a4, as4, d4, ds4, p4, q4, rfl, rfl, rfl, h4, r4⟩ := trodAll_cons r3
  obtain ⟨a5, as5, d5, ds5, p5, q5, rfl, rfl, rfl, h5, r5⟩ := trodAll_cons r4
  obtain ⟨rfl, rfl, rfl⟩ := trodAll_nil r5
  obtain rfl : args = #[a0, a1, a2, a3, a4, a5] := by cases args; simp_all
  obtain ⟨rfl, rfl⟩ := trodVars_none hV
  obtain ⟨x0, t0, e0⟩ := opensV (n := 8) (by kernel_rfl) (hval 0 24 a0 rfl rfl) h0
  obtain ⟨x1, t1, e1⟩ := opensV (n := 8) (by kernel_rfl) (hval 1 3 a1 rfl rfl) h1
  obtain ⟨x2, t2, e2⟩ := opensV (n := 8) (by kernel_rfl) (hval 2 3 a2 rfl rfl) h2
  obtain ⟨x3, t3, e3⟩ := opensV (n := 8) (by kernel_rfl) (hval 3 28 a3 rfl rfl) h3
  obtain ⟨x4, t4, e4⟩ := opensV (n := 8) (by kernel_rfl) (hval 4 3 a4 rfl rfl) h4
  obtain ⟨x5, t5, e5⟩ := opensV (n := 8) (by kernel_rfl) (hval 5 3 a5 rfl rfl) h5
  obtain ⟨v0, rfl, k0⟩ := cfg_of t0
  obtain ⟨v1, rfl, k1⟩ := int_of t1
  obtain ⟨v2, rfl, k2⟩ := int_of t2
  obtain ⟨v3, rfl, k3⟩ := msg_of t3
  obtain ⟨v4, rfl, k4⟩ := int_of t4
  obtain ⟨v5, rfl, k5⟩ := int_of t5
  have lt0 : ∀ x ∈ p0, x.block < W.heap.size := by obtain ⟨m, hm⟩ := h0; exact DataW.trod_lt m _ _ _ hm
  have lt1 : ∀ x ∈ p1, x.block < W.heap.size := by obtain ⟨m, hm⟩ := h1; exact DataW.trod_lt m _ _ _ hm
  have lt2 : ∀ x ∈ p2, x.block < W.heap.size := by obtain ⟨m, hm⟩ := h2; exact DataW.trod_lt m _ _ _ hm
  have lt3 : ∀ x ∈ p3, x.block < W.heap.size := by obtain ⟨m, hm⟩ := h3; exact DataW.trod_lt m _ _ _ hm
  have lt4 : ∀ x ∈ p4, x.block < W.heap.size := by obtain ⟨m, hm⟩ := h4; exact DataW.trod_lt m _ _ _ hm
  have lt5 : ∀ x ∈ p5, x.block < W.heap.size := by obtain ⟨m, hm⟩ := h5; exact DataW.trod_lt m _ _ _ hm
  refine (Holds.walk (args := [v0.d, (.int .i64 v1), (.int .i64 v2), v3.d, (.int .i64 v4), (.int .i64 v5)]) (lawGives v0 v1 v2 v3 v4 v5 k3) (vs := #[a0, a1, a2, a3, a4, a5]) (w := W) rfl ?_).mono fun e W' ⟨he, bel⟩ => ?_
  · intro i v p hv hp
    match i, hv, hp with
    | 0, hv, hp => cases hv; cases hp; exact e0
    | 1, hv, hp => cases hv; cases hp; exact e1
    | 2, hv, hp => cases hv; cases hp; exact e2
    | 3, hv, hp => cases hv; cases hp; exact e3
    | 4, hv, hp => cases hv; cases hp; exact e4
    | 5, hv, hp => cases hv; cases hp; exact e5
    | n + 6, hv, hp => simp at hp
  subst he
  exact ⟨_, rfl, _, _, _, [], _, [], hW', trodAll_mk1 (shut_bool Try.underlying4 _), (trodAll_cons_mk (Below.trod laidOut (by kernel_rfl) (of_decide_eq_true (by kernel_rfl)) h0 bel lt0) (trodAll_cons_mk (Below.trod laidOut (by kernel_rfl) (of_decide_eq_true (by kernel_rfl)) h1 bel lt1) (trodAll_cons_mk (Below.trod laidOut (by kernel_rfl) (of_decide_eq_true (by kernel_rfl)) h2 bel lt2) (trodAll_cons_mk (Below.trod laidOut (by kernel_rfl) (of_decide_eq_true (by kernel_rfl)) h3 bel lt3) (trodAll_cons_mk (Below.trod laidOut (by kernel_rfl) (of_decide_eq_true (by kernel_rfl)) h4 bel lt4) (trodAll_cons_mk (Below.trod laidOut (by kernel_rfl) (of_decide_eq_true (by kernel_rfl)) h5 bel lt5) trodAll_mk0)))))), rfl, bel.frame _, fun h => by cases h⟩
theorem over : Rows.replyGivesRow.holds Try.pinned (OpenSpec.ofChange Rows.replyGivesSpec) :=
  OpenClaim.holds_of_wide 5 Try.f5 rfl rfl rfl rfl rfl rfl rfl ⟨rfl, rfl, rfl, rfl, rfl⟩ rfl rfl rfl rfl rfl (by kernel_rfl) Try.func5 (by kernel_rfl)
    (of_decide_eq_true (by kernel_rfl)) (by unfold Func.isWrapper; first | (rw [if_pos (by decide +kernel)]; kernel_rfl) | (rw [if_neg (by decide +kernel)]; exact ⟨rfl, rfl⟩))
    (fun os started H enc _ => lifted os started H enc)
theorem proved : Rows.ReplyGivesSaid := over
end replyGives

theorem replyMakes_holds : Rows.ReplyMakesSaid := replyMakes.proved
theorem replyEchoes_holds : Rows.ReplyEchoesSaid := replyEchoes.proved
theorem replyGives_holds : Rows.ReplyGivesSaid := replyGives.proved
#print axioms replyMakes_holds
#print axioms replyEchoes_holds
#print axioms replyGives_holds
end Go.Proofs.Ytgkgnpgbdeoddaa
