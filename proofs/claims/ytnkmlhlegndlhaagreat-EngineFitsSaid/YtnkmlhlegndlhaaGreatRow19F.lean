/- The rows of chapter 19: each law answers true for every input, and leaves its arguments as they were. -/
import Derived.Test.YtnkmlhlegndlhaaGreatRows
import Derived.Test.YtnkmlhlegndlhaaGreatLaw19c
import Derived.Test.YtnkmlhlegndlhaaGreatLeaseK
import Derived.WalkKit
import Derived.ProofKit
import Derived.OpenShut
import Derived.ShutString
import Derived.ChangeOld
import Derived.Below
namespace Go.Proofs.YtnkmlhlegndlhaaGreat
open BoEng Go Go.RowKit Go.ChangeShapes Go.WideShapes Go.ChangeAt
set_option maxRecDepth 100000
set_option linter.unusedVariables false
theorem own : ownKnob Tryz.prog.godebug = none := by kernel_rfl
theorem laidOut : laidOutB Tryz.prog = true := by kernel_rfl
theorem int_of {n : Nat} {x : DV} (h : typD Tryz.prog n 3 x) : ∃ i : Int, x = .int .i64 i ∧ inI i := by
 obtain ⟨ds, h, rfl⟩ := h
 obtain ⟨i, rfl, hi⟩ := typC_int und3 h
 exact ⟨i, by simp [mkD], hi⟩
namespace engineFits
theorem lifted (os : Os) (started : os.Started) (H : Type) (enc : TypeId × Value → H) :
  ReturnsInHanded {} Tryz.checked os 8 .any (Rows.engineFitsSpec.pre6 enc Tryz.prog Tryz.f8 Rows.engineFitsRow.domain false) (Rows.engineFitsSpec.post enc Tryz.prog Tryz.f8 false true false false) := by
 refine returnsInHanded_of_change (C := Tryz.checked) own started (by kernel_rfl) Tryz.func8
  (ChangeSpec.witness6 (enc := enc) (C := Tryz.checked) false ⟨#[], #[.agg #[.int .i64 0, .int .i64 0, .slice none 0 0], .slice none 0 0, .agg #[.int .i64 0, .int .i64 0, .int .i64 0, .int .i64 0, .int .i64 0, .int .i64 0, .int .i64 0, .int .i64 0, .int .i64 0, .int .i64 0, .int .i64 0, .slice none 0 0, .slice none 0 0], .int .i64 0, .int .i64 0], []⟩ 8 (by kernel_rfl) (by kernel_rfl) (by kernel_rfl) (by kernel_rfl)) ?_
 intro W base args ds gs before hval0 hW hcnd _
 have hval : ∀ (j : Nat) t v, Tryz.f8.params[j]? = some t → args[j]? = some v → Value.okWide Tryz.prog W .any base t v := hval0
 have hW' := hW
 obtain ⟨p, q, hA0, hV, rfl, hfz, hnd⟩ := hW
 have hA : DataW.TrodAll enc Tryz.prog W 0 (fun _ => true) true Tryz.f8.params.toList args.toList ds p := hA0
 rw [Tryz.params8] at hA hval
 obtain ⟨a0, as0, d0, ds0, p0, q0, hargs, rfl, rfl, h0, r0⟩ := trodAll_cons hA
 obtain ⟨a1, as1, d1, ds1, p1, q1, rfl, rfl, rfl, h1, r1⟩ := trodAll_cons r0
 obtain ⟨a2, as2, d2, ds2, p2, q2, rfl, rfl, rfl, h2, r2⟩ := trodAll_cons r1
 obtain ⟨a3, as3, d3, ds3, p3, q3, rfl, rfl, rfl, h3, r3⟩ := trodAll_cons r2
 obtain ⟨a4, as4, d4, ds4, p4, q4, rfl, rfl, rfl, h4, r4⟩ := trodAll_cons r3
 obtain ⟨rfl, rfl, rfl⟩ := trodAll_nil r4
 obtain rfl : args = #[a0, a1, a2, a3, a4] := by cases args; simp_all
 obtain ⟨rfl, rfl⟩ := trodVars_none hV
 obtain ⟨x0, t0, e0⟩ := opensV (n := 8) (by kernel_rfl) (hval 0 24 a0 rfl rfl) h0
 obtain ⟨x1, t1, e1⟩ := opensV (n := 8) (by kernel_rfl) (hval 1 25 a1 rfl rfl) h1
 obtain ⟨x2, t2, e2⟩ := opensV (n := 8) (by kernel_rfl) (hval 2 29 a2 rfl rfl) h2
 obtain ⟨x3, t3, e3⟩ := opensV (n := 8) (by kernel_rfl) (hval 3 3 a3 rfl rfl) h3
 obtain ⟨x4, t4, e4⟩ := opensV (n := 8) (by kernel_rfl) (hval 4 3 a4 rfl rfl) h4
 obtain ⟨v0, rfl, k0⟩ := cfg_of t0
 obtain ⟨v1, rfl, k1⟩ := leases_of t1
 obtain ⟨v2, rfl, k2⟩ := msg_of t2
 obtain ⟨v3, rfl, k3⟩ := int_of t3
 obtain ⟨v4, rfl, k4⟩ := int_of t4
 have lt0 : ∀ x ∈ p0, x.block < W.heap.size := by obtain ⟨m, hm⟩ := h0; exact DataW.trod_lt m _ _ _ hm
 have lt1 : ∀ x ∈ p1, x.block < W.heap.size := by obtain ⟨m, hm⟩ := h1; exact DataW.trod_lt m _ _ _ hm
 have lt2 : ∀ x ∈ p2, x.block < W.heap.size := by obtain ⟨m, hm⟩ := h2; exact DataW.trod_lt m _ _ _ hm
 have lt3 : ∀ x ∈ p3, x.block < W.heap.size := by obtain ⟨m, hm⟩ := h3; exact DataW.trod_lt m _ _ _ hm
 have lt4 : ∀ x ∈ p4, x.block < W.heap.size := by obtain ⟨m, hm⟩ := h4; exact DataW.trod_lt m _ _ _ hm
 refine (Holds.walk (args := [v0.d, (.slice (v1.map LeaseR.d)), v2.d, (.int .i64 v3), (.int .i64 v4)]) (lawFits v0 v1 v2 v3 v4 ⟨Nat.le_trans k1.1 (by decide), fun a h => Nat.le_trans (k1.2 a h) (by decide)⟩ (Nat.le_trans k2.2.2.1 (by decide))) (vs := #[a0, a1, a2, a3, a4]) (w := W) rfl ?_).mono fun e W' ⟨he, bel⟩ => ?_
 ·intro i v p hv hp
  match i, hv, hp with
  | 0, hv, hp => cases hv; cases hp; exact e0
  | 1, hv, hp => cases hv; cases hp; exact e1
  | 2, hv, hp => cases hv; cases hp; exact e2
  | 3, hv, hp => cases hv; cases hp; exact e3
  | 4, hv, hp => cases hv; cases hp; exact e4
  | n + 5, hv, hp => simp at hp
 subst he
 exact ⟨_, rfl, _, _, _, [], _, [], hW', trodAll_mk1 (shut_bool Tryz.underlying4 _), (trodAll_cons_mk (Below.trod laidOut (by kernel_rfl) (of_decide_eq_true (by kernel_rfl)) h0 bel lt0) (trodAll_cons_mk (Below.trod laidOut (by kernel_rfl) (of_decide_eq_true (by kernel_rfl)) h1 bel lt1) (trodAll_cons_mk (Below.trod laidOut (by kernel_rfl) (of_decide_eq_true (by kernel_rfl)) h2 bel lt2) (trodAll_cons_mk (Below.trod laidOut (by kernel_rfl) (of_decide_eq_true (by kernel_rfl)) h3 bel lt3) (trodAll_cons_mk (Below.trod laidOut (by kernel_rfl) (of_decide_eq_true (by kernel_rfl)) h4 bel lt4) trodAll_mk0))))), rfl, bel.frame _, fun h => by cases h⟩
theorem over : Rows.engineFitsRow.holds Tryz.pinned (OpenSpec.ofChange Rows.engineFitsSpec) :=
 OpenClaim.holds_of_wide 8 Tryz.f8 rfl rfl rfl rfl rfl rfl rfl ⟨rfl, rfl, rfl, rfl, rfl⟩ rfl rfl rfl rfl rfl (by kernel_rfl) Tryz.func8 (by kernel_rfl)
  (of_decide_eq_true (by kernel_rfl)) (by unfold Func.isWrapper; first | (rw [if_pos (by decide +kernel)]; kernel_rfl) | (rw [if_neg (by decide +kernel)]; exact ⟨rfl, rfl⟩))
  (fun os started H enc _ => lifted os started H enc)
theorem proved : Rows.EngineFitsSaid := over
end engineFits
theorem engineFits_holds : Rows.EngineFitsSaid := engineFits.proved
#print axioms engineFits_holds
end Go.Proofs.YtnkmlhlegndlhaaGreat
