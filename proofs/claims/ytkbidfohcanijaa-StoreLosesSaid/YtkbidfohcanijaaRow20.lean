/- The rows of chapter 20: each law answers true for every input, and leaves its arguments as they were. -/
import Derived.Test.YtkbidfohcanijaaRows
import Derived.Test.YtkbidfohcanijaaLaw20
import Derived.Test.YtkbidfohcanijaaDiskK
import Derived.Test.YtkbidfohcanijaaLeaseK
import Derived.WalkKit
import Derived.ProofKit
import Derived.OpenShut
import Derived.ShutString
import Derived.ChangeOld
import Derived.Below
namespace Go.Proofs.Ytkbidfohcanijaa
open BoEng Go Go.RowKit Go.ChangeShapes Go.WideShapes Go.ChangeAt
set_option maxRecDepth 100000
set_option linter.unusedVariables false

theorem own : ownKnob Try.prog.godebug = none := by kernel_rfl
theorem laidOut : laidOutB Try.prog = true := by kernel_rfl

theorem int_of {n : Nat} {x : DV} (h : typD Try.prog n 3 x) : ∃ i : Int, x = .int .i64 i ∧ inI i := by
  obtain ⟨ds, h, rfl⟩ := h
  obtain ⟨i, rfl, hi⟩ := typC_int und3 h
  exact ⟨i, by simp [mkD], hi⟩

theorem bool_of {n : Nat} {x : DV} (h : typD Try.prog n 4 x) : ∃ i : Bool, x = .bool i ∧ True := by
  obtain ⟨ds, h, rfl⟩ := h
  obtain ⟨i, rfl⟩ := typC_bool und4 h
  exact ⟨i, by simp [mkD], trivial⟩

namespace storeOpens
theorem lifted (os : Os) (started : os.Started) (H : Type) (enc : TypeId × Value → H) :
    ReturnsInHanded {} Try.checked os 8 .any (Rows.storeOpensSpec.pre6 enc Try.prog Try.f8 Rows.storeOpensRow.domain false) (Rows.storeOpensSpec.post enc Try.prog Try.f8 false true false false) := by
  refine returnsInHanded_of_change (C := Try.checked) own started (by kernel_rfl) Try.func8
    (ChangeSpec.witness6 (enc := enc) (C := Try.checked) false ⟨#[], #[.agg #[.slice none 0 0, .slice none 0 0, .slice none 0 0]], []⟩ 8 (by kernel_rfl) (by kernel_rfl) (by kernel_rfl) (by kernel_rfl)) ?_
  intro W base args ds gs before hval0 hW hcnd _
  have hval : ∀ (j : Nat) t v, Try.f8.params[j]? = some t → args[j]? = some v → Value.okWide Try.prog W .any base t v := hval0
  have hW' := hW
  obtain ⟨p, q, hA0, hV, rfl, hfz, hnd⟩ := hW
  have hA : DataW.TrodAll enc Try.prog W 0 (fun _ => true) true Try.f8.params.toList args.toList ds p := hA0
  rw [Try.params8] at hA hval
  obtain ⟨a0, as0, d0, ds0, p0, q0, hargs, rfl, rfl, h0, r0⟩ := trodAll_cons hA
  obtain ⟨rfl, rfl, rfl⟩ := trodAll_nil r0
  obtain rfl : args = #[a0] := by cases args; simp_all
  obtain ⟨rfl, rfl⟩ := trodVars_none hV
  obtain ⟨x0, t0, e0⟩ := opensV (n := 8) (by kernel_rfl) (hval 0 30 a0 rfl rfl) h0
  obtain ⟨v0, rfl, k0⟩ := dk_of t0
  have lt0 : ∀ x ∈ p0, x.block < W.heap.size := by obtain ⟨m, hm⟩ := h0; exact DataW.trod_lt m _ _ _ hm
  refine (Holds.walk (args := [v0.d]) (lawSOpens v0 k0) (vs := #[a0]) (w := W) rfl ?_).mono fun e W' ⟨he, bel⟩ => ?_
  · intro i v p hv hp
    match i, hv, hp with
    | 0, hv, hp => cases hv; cases hp; exact e0
    | n + 1, hv, hp => simp at hp
  subst he
  exact ⟨_, rfl, _, _, _, [], _, [], hW', trodAll_mk1 (shut_bool Try.underlying4 _), (trodAll_cons_mk (Below.trod laidOut (by kernel_rfl) (of_decide_eq_true (by kernel_rfl)) h0 bel lt0) trodAll_mk0), rfl, bel.frame _, fun h => by cases h⟩
theorem over : Rows.storeOpensRow.holds Try.pinned (OpenSpec.ofChange Rows.storeOpensSpec) :=
  OpenClaim.holds_of_wide 8 Try.f8 rfl rfl rfl rfl rfl rfl rfl ⟨rfl, rfl, rfl, rfl, rfl⟩ rfl rfl rfl rfl rfl (by kernel_rfl) Try.func8 (by kernel_rfl)
    (of_decide_eq_true (by kernel_rfl)) (by unfold Func.isWrapper; first | (rw [if_pos (by decide +kernel)]; kernel_rfl) | (rw [if_neg (by decide +kernel)]; exact ⟨rfl, rfl⟩))
    (fun os started H enc _ => lifted os started H enc)
theorem proved : Rows.StoreOpensSaid := over
end storeOpens

namespace storeCuts
theorem lifted (os : Os) (started : os.Started) (H : Type) (enc : TypeId × Value → H) :
    ReturnsInHanded {} Try.checked os 9 .any (Rows.storeCutsSpec.pre6 enc Try.prog Try.f9 Rows.storeCutsRow.domain false) (Rows.storeCutsSpec.post enc Try.prog Try.f9 false true false false) := by
  refine returnsInHanded_of_change (C := Try.checked) own started (by kernel_rfl) Try.func9
    (ChangeSpec.witness6 (enc := enc) (C := Try.checked) false ⟨#[], #[.slice none 0 0, .agg #[.int .i64 0, .int .i64 0, .int .i64 0, .string ByteArray.empty], .int .i64 0, .slice none 0 0, .bool false], []⟩ 8 (by kernel_rfl) (by kernel_rfl) (by kernel_rfl) (by kernel_rfl)) ?_
  intro W base args ds gs before hval0 hW hcnd _
  have hval : ∀ (j : Nat) t v, Try.f9.params[j]? = some t → args[j]? = some v → Value.okWide Try.prog W .any base t v := hval0
  have hW' := hW
  obtain ⟨p, q, hA0, hV, rfl, hfz, hnd⟩ := hW
  have hA : DataW.TrodAll enc Try.prog W 0 (fun _ => true) true Try.f9.params.toList args.toList ds p := hA0
  rw [Try.params9] at hA hval
  obtain ⟨a0, as0, d0, ds0, p0, q0, hargs, rfl, rfl, h0, r0⟩ := trodAll_cons hA
  obtain ⟨a1, as1, d1, ds1, p1, q1, rfl, rfl, rfl, h1, r1⟩ := trodAll_cons r0
  obtain ⟨a2, as2, d2, ds2, p2, q2, rfl, rfl, rfl, h2, r2⟩ := trodAll_cons r1
  obtain ⟨a3, as3, d3, ds3, p3, q3, rfl, rfl, rfl, h3, r3⟩ := trodAll_cons r2
  obtain ⟨a4, as4, d4, ds4, p4, q4, rfl, rfl, rfl, h4, r4⟩ := trodAll_cons r3
  obtain ⟨rfl, rfl, rfl⟩ := trodAll_nil r4
  obtain rfl : args = #[a0, a1, a2, a3, a4] := by cases args; simp_all
  obtain ⟨rfl, rfl⟩ := trodVars_none hV
  obtain ⟨x0, t0, e0⟩ := opensV (n := 8) (by kernel_rfl) (hval 0 22 a0 rfl rfl) h0
  obtain ⟨x1, t1, e1⟩ := opensV (n := 8) (by kernel_rfl) (hval 1 51 a1 rfl rfl) h1
  obtain ⟨x2, t2, e2⟩ := opensV (n := 8) (by kernel_rfl) (hval 2 3 a2 rfl rfl) h2
  obtain ⟨x3, t3, e3⟩ := opensV (n := 8) (by kernel_rfl) (hval 3 52 a3 rfl rfl) h3
  obtain ⟨x4, t4, e4⟩ := opensV (n := 8) (by kernel_rfl) (hval 4 4 a4 rfl rfl) h4
  obtain ⟨v0, rfl, k0⟩ := leases_of t0
  obtain ⟨v1, rfl, k1⟩ := lease_of t1
  obtain ⟨v2, rfl, k2⟩ := int_of t2
  obtain ⟨v3, rfl, k3⟩ := ints_of t3
  obtain ⟨v4, rfl, k4⟩ := bool_of t4
  have lt0 : ∀ x ∈ p0, x.block < W.heap.size := by obtain ⟨m, hm⟩ := h0; exact DataW.trod_lt m _ _ _ hm
  have lt1 : ∀ x ∈ p1, x.block < W.heap.size := by obtain ⟨m, hm⟩ := h1; exact DataW.trod_lt m _ _ _ hm
  have lt2 : ∀ x ∈ p2, x.block < W.heap.size := by obtain ⟨m, hm⟩ := h2; exact DataW.trod_lt m _ _ _ hm
  have lt3 : ∀ x ∈ p3, x.block < W.heap.size := by obtain ⟨m, hm⟩ := h3; exact DataW.trod_lt m _ _ _ hm
  have lt4 : ∀ x ∈ p4, x.block < W.heap.size := by obtain ⟨m, hm⟩ := h4; exact DataW.trod_lt m _ _ _ hm
  refine (Holds.walk (args := [(.slice (v0.map LeaseR.d)), v1.d, (.int .i64 v2), (.slice (v3.map intD)), (.bool v4)]) (lawSCuts v0 v1 v2 v3 v4 ⟨Nat.le_trans k0.1 maxLen_le, fun l hl => Nat.le_trans (k0.2 l hl) maxLen_le⟩ (Nat.le_trans k1 maxLen_le)) (vs := #[a0, a1, a2, a3, a4]) (w := W) rfl ?_).mono fun e W' ⟨he, bel⟩ => ?_
  · intro i v p hv hp
    match i, hv, hp with
    | 0, hv, hp => cases hv; cases hp; exact e0
    | 1, hv, hp => cases hv; cases hp; exact e1
    | 2, hv, hp => cases hv; cases hp; exact e2
    | 3, hv, hp => cases hv; cases hp; exact e3
    | 4, hv, hp => cases hv; cases hp; exact e4
    | n + 5, hv, hp => simp at hp
  subst he
  exact ⟨_, rfl, _, _, _, [], _, [], hW', trodAll_mk1 (shut_bool Try.underlying4 _), (trodAll_cons_mk (Below.trod laidOut (by kernel_rfl) (of_decide_eq_true (by kernel_rfl)) h0 bel lt0) (trodAll_cons_mk (Below.trod laidOut (by kernel_rfl) (of_decide_eq_true (by kernel_rfl)) h1 bel lt1) (trodAll_cons_mk (Below.trod laidOut (by kernel_rfl) (of_decide_eq_true (by kernel_rfl)) h2 bel lt2) (trodAll_cons_mk (Below.trod laidOut (by kernel_rfl) (of_decide_eq_true (by kernel_rfl)) h3 bel lt3) (trodAll_cons_mk (Below.trod laidOut (by kernel_rfl) (of_decide_eq_true (by kernel_rfl)) h4 bel lt4) trodAll_mk0))))), rfl, bel.frame _, fun h => by cases h⟩
theorem over : Rows.storeCutsRow.holds Try.pinned (OpenSpec.ofChange Rows.storeCutsSpec) :=
  OpenClaim.holds_of_wide 9 Try.f9 rfl rfl rfl rfl rfl rfl rfl ⟨rfl, rfl, rfl, rfl, rfl⟩ rfl rfl rfl rfl rfl (by kernel_rfl) Try.func9 (by kernel_rfl)
    (of_decide_eq_true (by kernel_rfl)) (by unfold Func.isWrapper; first | (rw [if_pos (by decide +kernel)]; kernel_rfl) | (rw [if_neg (by decide +kernel)]; exact ⟨rfl, rfl⟩))
    (fun os started H enc _ => lifted os started H enc)
theorem proved : Rows.StoreCutsSaid := over
end storeCuts

namespace storeAgain
theorem lifted (os : Os) (started : os.Started) (H : Type) (enc : TypeId × Value → H) :
    ReturnsInHanded {} Try.checked os 10 .any (Rows.storeAgainSpec.pre6 enc Try.prog Try.f10 Rows.storeAgainRow.domain false) (Rows.storeAgainSpec.post enc Try.prog Try.f10 false true false false) := by
  refine returnsInHanded_of_change (C := Try.checked) own started (by kernel_rfl) Try.func10
    (ChangeSpec.witness6 (enc := enc) (C := Try.checked) false ⟨#[], #[.slice none 0 0, .slice none 0 0, .bool false], []⟩ 8 (by kernel_rfl) (by kernel_rfl) (by kernel_rfl) (by kernel_rfl)) ?_
  intro W base args ds gs before hval0 hW hcnd _
  have hval : ∀ (j : Nat) t v, Try.f10.params[j]? = some t → args[j]? = some v → Value.okWide Try.prog W .any base t v := hval0
  have hW' := hW
  obtain ⟨p, q, hA0, hV, rfl, hfz, hnd⟩ := hW
  have hA : DataW.TrodAll enc Try.prog W 0 (fun _ => true) true Try.f10.params.toList args.toList ds p := hA0
  rw [Try.params10] at hA hval
  obtain ⟨a0, as0, d0, ds0, p0, q0, hargs, rfl, rfl, h0, r0⟩ := trodAll_cons hA
  obtain ⟨a1, as1, d1, ds1, p1, q1, rfl, rfl, rfl, h1, r1⟩ := trodAll_cons r0
  obtain ⟨a2, as2, d2, ds2, p2, q2, rfl, rfl, rfl, h2, r2⟩ := trodAll_cons r1
  obtain ⟨rfl, rfl, rfl⟩ := trodAll_nil r2
  obtain rfl : args = #[a0, a1, a2] := by cases args; simp_all
  obtain ⟨rfl, rfl⟩ := trodVars_none hV
  obtain ⟨x0, t0, e0⟩ := opensV (n := 8) (by kernel_rfl) (hval 0 22 a0 rfl rfl) h0
  obtain ⟨x1, t1, e1⟩ := opensV (n := 8) (by kernel_rfl) (hval 1 52 a1 rfl rfl) h1
  obtain ⟨x2, t2, e2⟩ := opensV (n := 8) (by kernel_rfl) (hval 2 4 a2 rfl rfl) h2
  obtain ⟨v0, rfl, k0⟩ := leases_of t0
  obtain ⟨v1, rfl, k1⟩ := ints_of t1
  obtain ⟨v2, rfl, k2⟩ := bool_of t2
  have lt0 : ∀ x ∈ p0, x.block < W.heap.size := by obtain ⟨m, hm⟩ := h0; exact DataW.trod_lt m _ _ _ hm
  have lt1 : ∀ x ∈ p1, x.block < W.heap.size := by obtain ⟨m, hm⟩ := h1; exact DataW.trod_lt m _ _ _ hm
  have lt2 : ∀ x ∈ p2, x.block < W.heap.size := by obtain ⟨m, hm⟩ := h2; exact DataW.trod_lt m _ _ _ hm
  refine (Holds.walk (args := [(.slice (v0.map LeaseR.d)), (.slice (v1.map intD)), (.bool v2)]) (lawSAgain v0 v1 v2 ⟨Nat.le_trans k0.1 maxLen_le, fun l hl => Nat.le_trans (k0.2 l hl) maxLen_le⟩) (vs := #[a0, a1, a2]) (w := W) rfl ?_).mono fun e W' ⟨he, bel⟩ => ?_
  · intro i v p hv hp
    match i, hv, hp with
    | 0, hv, hp => cases hv; cases hp; exact e0
    | 1, hv, hp => cases hv; cases hp; exact e1
    | 2, hv, hp => cases hv; cases hp; exact e2
    | n + 3, hv, hp => simp at hp
  subst he
  exact ⟨_, rfl, _, _, _, [], _, [], hW', trodAll_mk1 (shut_bool Try.underlying4 _), (trodAll_cons_mk (Below.trod laidOut (by kernel_rfl) (of_decide_eq_true (by kernel_rfl)) h0 bel lt0) (trodAll_cons_mk (Below.trod laidOut (by kernel_rfl) (of_decide_eq_true (by kernel_rfl)) h1 bel lt1) (trodAll_cons_mk (Below.trod laidOut (by kernel_rfl) (of_decide_eq_true (by kernel_rfl)) h2 bel lt2) trodAll_mk0))), rfl, bel.frame _, fun h => by cases h⟩
theorem over : Rows.storeAgainRow.holds Try.pinned (OpenSpec.ofChange Rows.storeAgainSpec) :=
  OpenClaim.holds_of_wide 10 Try.f10 rfl rfl rfl rfl rfl rfl rfl ⟨rfl, rfl, rfl, rfl, rfl⟩ rfl rfl rfl rfl rfl (by kernel_rfl) Try.func10 (by kernel_rfl)
    (of_decide_eq_true (by kernel_rfl)) (by unfold Func.isWrapper; first | (rw [if_pos (by decide +kernel)]; kernel_rfl) | (rw [if_neg (by decide +kernel)]; exact ⟨rfl, rfl⟩))
    (fun os started H enc _ => lifted os started H enc)
theorem proved : Rows.StoreAgainSaid := over
end storeAgain

namespace storeLoses
theorem lifted (os : Os) (started : os.Started) (H : Type) (enc : TypeId × Value → H) :
    ReturnsInHanded {} Try.checked os 11 .any (Rows.storeLosesSpec.pre6 enc Try.prog Try.f11 Rows.storeLosesRow.domain false) (Rows.storeLosesSpec.post enc Try.prog Try.f11 false true false false) := by
  refine returnsInHanded_of_change (C := Try.checked) own started (by kernel_rfl) Try.func11
    (ChangeSpec.witness6 (enc := enc) (C := Try.checked) false ⟨#[], #[.slice none 0 0, .int .i64 0, .int .i64 0, .slice none 0 0, .bool false], []⟩ 8 (by kernel_rfl) (by kernel_rfl) (by kernel_rfl) (by kernel_rfl)) ?_
  intro W base args ds gs before hval0 hW hcnd _
  have hval : ∀ (j : Nat) t v, Try.f11.params[j]? = some t → args[j]? = some v → Value.okWide Try.prog W .any base t v := hval0
  have hW' := hW
  obtain ⟨p, q, hA0, hV, rfl, hfz, hnd⟩ := hW
  have hA : DataW.TrodAll enc Try.prog W 0 (fun _ => true) true Try.f11.params.toList args.toList ds p := hA0
  rw [Try.params11] at hA hval
  obtain ⟨a0, as0, d0, ds0, p0, q0, hargs, rfl, rfl, h0, r0⟩ := trodAll_cons hA
  obtain ⟨a1, as1, d1, ds1, p1, q1, rfl, rfl, rfl, h1, r1⟩ := trodAll_cons r0
  obtain ⟨a2, as2, d2, ds2, p2, q2, rfl, rfl, rfl, h2, r2⟩ := trodAll_cons r1
  obtain ⟨a3, as3, d3, ds3, p3, q3, rfl, rfl, rfl, h3, r3⟩ := trodAll_cons r2
  obtain ⟨a4, as4, d4, ds4, p4, q4, rfl, rfl, rfl, h4, r4⟩ := trodAll_cons r3
  obtain ⟨rfl, rfl, rfl⟩ := trodAll_nil r4
  obtain rfl : args = #[a0, a1, a2, a3, a4] := by cases args; simp_all
  obtain ⟨rfl, rfl⟩ := trodVars_none hV
  obtain ⟨x0, t0, e0⟩ := opensV (n := 8) (by kernel_rfl) (hval 0 22 a0 rfl rfl) h0
  obtain ⟨x1, t1, e1⟩ := opensV (n := 8) (by kernel_rfl) (hval 1 3 a1 rfl rfl) h1
  obtain ⟨x2, t2, e2⟩ := opensV (n := 8) (by kernel_rfl) (hval 2 3 a2 rfl rfl) h2
  obtain ⟨x3, t3, e3⟩ := opensV (n := 8) (by kernel_rfl) (hval 3 52 a3 rfl rfl) h3
  obtain ⟨x4, t4, e4⟩ := opensV (n := 8) (by kernel_rfl) (hval 4 4 a4 rfl rfl) h4
  obtain ⟨v0, rfl, k0⟩ := leases_of t0
  obtain ⟨v1, rfl, k1⟩ := int_of t1
  obtain ⟨v2, rfl, k2⟩ := int_of t2
  obtain ⟨v3, rfl, k3⟩ := ints_of t3
  obtain ⟨v4, rfl, k4⟩ := bool_of t4
  have lt0 : ∀ x ∈ p0, x.block < W.heap.size := by obtain ⟨m, hm⟩ := h0; exact DataW.trod_lt m _ _ _ hm
  have lt1 : ∀ x ∈ p1, x.block < W.heap.size := by obtain ⟨m, hm⟩ := h1; exact DataW.trod_lt m _ _ _ hm
  have lt2 : ∀ x ∈ p2, x.block < W.heap.size := by obtain ⟨m, hm⟩ := h2; exact DataW.trod_lt m _ _ _ hm
  have lt3 : ∀ x ∈ p3, x.block < W.heap.size := by obtain ⟨m, hm⟩ := h3; exact DataW.trod_lt m _ _ _ hm
  have lt4 : ∀ x ∈ p4, x.block < W.heap.size := by obtain ⟨m, hm⟩ := h4; exact DataW.trod_lt m _ _ _ hm
  refine (Holds.walk (args := [(.slice (v0.map LeaseR.d)), (.int .i64 v1), (.int .i64 v2), (.slice (v3.map intD)), (.bool v4)]) (lawSLoses v0 v1 v2 v3 v4 ⟨Nat.le_trans k0.1 maxLen_le, fun l hl => Nat.le_trans (k0.2 l hl) maxLen_le⟩) (vs := #[a0, a1, a2, a3, a4]) (w := W) rfl ?_).mono fun e W' ⟨he, bel⟩ => ?_
  · intro i v p hv hp
    match i, hv, hp with
    | 0, hv, hp => cases hv; cases hp; exact e0
    | 1, hv, hp => cases hv; cases hp; exact e1
    | 2, hv, hp => cases hv; cases hp; exact e2
    | 3, hv, hp => cases hv; cases hp; exact e3
    | 4, hv, hp => cases hv; cases hp; exact e4
    | n + 5, hv, hp => simp at hp
  subst he
  exact ⟨_, rfl, _, _, _, [], _, [], hW', trodAll_mk1 (shut_bool Try.underlying4 _), (trodAll_cons_mk (Below.trod laidOut (by kernel_rfl) (of_decide_eq_true (by kernel_rfl)) h0 bel lt0) (trodAll_cons_mk (Below.trod laidOut (by kernel_rfl) (of_decide_eq_true (by kernel_rfl)) h1 bel lt1) (trodAll_cons_mk (Below.trod laidOut (by kernel_rfl) (of_decide_eq_true (by kernel_rfl)) h2 bel lt2) (trodAll_cons_mk (Below.trod laidOut (by kernel_rfl) (of_decide_eq_true (by kernel_rfl)) h3 bel lt3) (trodAll_cons_mk (Below.trod laidOut (by kernel_rfl) (of_decide_eq_true (by kernel_rfl)) h4 bel lt4) trodAll_mk0))))), rfl, bel.frame _, fun h => by cases h⟩
theorem over : Rows.storeLosesRow.holds Try.pinned (OpenSpec.ofChange Rows.storeLosesSpec) :=
  OpenClaim.holds_of_wide 11 Try.f11 rfl rfl rfl rfl rfl rfl rfl ⟨rfl, rfl, rfl, rfl, rfl⟩ rfl rfl rfl rfl rfl (by kernel_rfl) Try.func11 (by kernel_rfl)
    (of_decide_eq_true (by kernel_rfl)) (by unfold Func.isWrapper; first | (rw [if_pos (by decide +kernel)]; kernel_rfl) | (rw [if_neg (by decide +kernel)]; exact ⟨rfl, rfl⟩))
    (fun os started H enc _ => lifted os started H enc)
theorem proved : Rows.StoreLosesSaid := over
end storeLoses

theorem storeOpens_holds : Rows.StoreOpensSaid := storeOpens.proved
theorem storeCuts_holds : Rows.StoreCutsSaid := storeCuts.proved
theorem storeAgain_holds : Rows.StoreAgainSaid := storeAgain.proved
theorem storeLoses_holds : Rows.StoreLosesSaid := storeLoses.proved
#print axioms storeOpens_holds
#print axioms storeCuts_holds
#print axioms storeAgain_holds
#print axioms storeLoses_holds
end Go.Proofs.Ytkbidfohcanijaa
