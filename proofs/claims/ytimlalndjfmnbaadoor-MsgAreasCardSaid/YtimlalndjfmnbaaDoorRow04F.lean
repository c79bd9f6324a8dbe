/- The rows of chapter 04: each law answers true for every input, and leaves its arguments as they were. -/
import Derived.Test.YtimlalndjfmnbaaDoorRows
import Derived.Test.YtimlalndjfmnbaaDoorLaw04d
import Derived.Test.YtimlalndjfmnbaaDoorLaid
import Derived.WalkKit
import Derived.ProofKit
import Derived.OpenShut
import Derived.ShutString
import Derived.ChangeOld
import Derived.Below
import Derived.Test.YtimlalndjfmnbaaDoorTie
import Derived.Test.YtimlalndjfmnbaaDoorCards
import Derived.ChangeSame
import Derived.ChangeVars
import Derived.JoinedOf
import Derived.LaidLaws
import Derived.LaidHandle
import Derived.SevenTiedAt
namespace Go.Proofs.YtimlalndjfmnbaaDoor
open BoEng Go Go.RowKit Go.ChangeShapes Go.WideShapes Go.ChangeAt
set_option maxRecDepth 100000
set_option linter.unusedVariables false

theorem own : ownKnob Tryd.prog.godebug = none := by kernel_rfl
theorem laidOut : laidOutB Tryd.prog = true := by kernel_rfl

namespace msgAreas
theorem lifted (os : Os) (started : os.Started) (H : Type) (enc : TypeId × Value → H) :
    ReturnsInHanded {} Tryd.checked os 8 .any (fun w args => (Rows.msgAreasSpec.pre enc Tryd.prog Tryd.f8 Rows.msgAreasRow.domain false w args ∧ laidMetH Tryd.prog laidL w) ∧ sizedMet enc Tryd.prog Tryd.f8 (OpenSpec.ofChange Rows.msgAreasSpec) false w args)
      (Rows.msgAreasSpec.post enc Tryd.prog Tryd.f8 false true false false) := by
  refine returnsInHanded_of_change_and (C := Tryd.checked) (X := fun w _ => laidMetH Tryd.prog laidL w) (fun _ _ _ hh h => h.of_heap hh) own started (by kernel_rfl) Tryd.func8
    (ChangeSpec.witness_at (enc := enc) (C := Tryd.checked) (os := os) (X := fun w _ => laidMetH Tryd.prog laidL w) false (laidWorld os) #[.agg #[.int .i64 0, .int .i64 0, .int .i64 0, .int .i64 0, .int .i64 0, .int .i64 0, .int .i64 0, .int .i64 0, .int .i64 0, .int .i64 0, .int .i64 0, .slice none 0 0, .slice none 0 0], .slice none 0 0, .slice none 0 0] 8 rfl (by kernel_rfl) (by kernel_rfl) (by kernel_rfl) (by kernel_rfl) (by kernel_rfl) (laidWorld_met os _)) ?_
  intro W base args ds gs before hval0 hW hcnd _ hL _
  have hval : ∀ (j : Nat) t v, Tryd.f8.params[j]? = some t → args[j]? = some v → Value.okWide Tryd.prog W .any base t v := hval0
  have hW' := hW
  obtain ⟨p, q, hA0, hV, rfl, hfz, hnd⟩ := hW
  have hA : DataW.TrodAll enc Tryd.prog W 0 (fun _ => true) true Tryd.f8.params.toList args.toList ds p := hA0
  rw [Tryd.params8] at hA hval
  obtain ⟨a0, as0, d0, ds0, p0, q0, hargs, rfl, rfl, h0, r0⟩ := trodAll_cons hA
  obtain ⟨a1, as1, d1, ds1, p1, q1, rfl, rfl, rfl, h1, r1⟩ := trodAll_cons r0
  obtain ⟨a2, as2, d2, ds2, p2, q2, rfl, rfl, rfl, h2, r2⟩ := trodAll_cons r1
  obtain ⟨rfl, rfl, rfl⟩ := trodAll_nil r2
  obtain rfl : args = #[a0, a1, a2] := by cases args; simp_all
  obtain ⟨rfl, rfl⟩ := trodVars_none hV
  obtain ⟨x0, t0, e0⟩ := opensV (n := 8) (by kernel_rfl) (hval 0 25 a0 rfl rfl) h0
  obtain ⟨x1, t1, e1⟩ := opensV (n := 8) (by kernel_rfl) (hval 1 23 a1 rfl rfl) h1
  obtain ⟨x2, t2, e2⟩ := opensV (n := 8) (by kernel_rfl) (hval 2 23 a2 rfl rfl) h2
  obtain ⟨v0, rfl, k0⟩ := msg_of t0
  obtain ⟨v1, rfl, k1⟩ := opts_of t1
  obtain ⟨v2, rfl, k2⟩ := opts_of t2
  have lt0 : ∀ x ∈ p0, x.block < W.heap.size := by obtain ⟨m, hm⟩ := h0; exact DataW.trod_lt m _ _ _ hm
  have lt1 : ∀ x ∈ p1, x.block < W.heap.size := by obtain ⟨m, hm⟩ := h1; exact DataW.trod_lt m _ _ _ hm
  have lt2 : ∀ x ∈ p2, x.block < W.heap.size := by obtain ⟨m, hm⟩ := h2; exact DataW.trod_lt m _ _ _ hm
  refine (Holds.walk (args := [v0.d, (.slice (v1.map Opt.d)), (.slice (v2.map Opt.d))]) (lawMAreas v0 v1 v2 k0 (Nat.le_trans k1 maxLen_le4) (Nat.le_trans k2 maxLen_le4)) (vs := #[a0, a1, a2]) (w := W) rfl (laid_ok hL) ?_).mono fun e W' ⟨he, bel⟩ => ?_
  · intro i v p hv hp
    match i, hv, hp with
    | 0, hv, hp => cases hv; cases hp; exact e0
    | 1, hv, hp => cases hv; cases hp; exact e1
    | 2, hv, hp => cases hv; cases hp; exact e2
    | n + 3, hv, hp => simp at hp
  subst he
  exact ⟨_, rfl, _, _, _, [], _, [], hW', trodAll_mk1 (shut_bool Tryd.underlying4 _), (trodAll_cons_mk (Below.trod laidOut (by kernel_rfl) (of_decide_eq_true (by kernel_rfl)) h0 bel lt0) (trodAll_cons_mk (Below.trod laidOut (by kernel_rfl) (of_decide_eq_true (by kernel_rfl)) h1 bel lt1) (trodAll_cons_mk (Below.trod laidOut (by kernel_rfl) (of_decide_eq_true (by kernel_rfl)) h2 bel lt2) trodAll_mk0))), rfl, bel.frame _, fun h => by cases h⟩
theorem over : Rows.msgAreasRow.holds Tryd.pinned (OpenSpec.ofChange Rows.msgAreasSpec) :=
  OpenClaim.holds_of_wide 8 Tryd.f8 rfl rfl rfl rfl rfl rfl rfl ⟨rfl, rfl, rfl, rfl, rfl⟩ rfl rfl rfl rfl rfl (by kernel_rfl) Tryd.func8 (by kernel_rfl)
    (of_decide_eq_true (by kernel_rfl)) (by unfold Func.isWrapper; first | (rw [if_pos (by decide +kernel)]; kernel_rfl) | (rw [if_neg (by decide +kernel)]; exact ⟨rfl, rfl⟩))
    (fun os started H enc _ => lifted os started H enc)
theorem proved : Rows.MsgAreasCardSaid :=
  Claim7.holds_tied_plain_at .later [] [.handle, .data] true (true, "9e3bd31b91837decc6967c6c448d56fcac8e1d5e46d3c1f54b37f7e3712eef6c") true
    over (fun _ h => by cases h) (by kernel_rfl) (fun _ h => by cases h) msgAreas_row_tie rfl ⟨rfl, rfl⟩ (by kernel_rfl) rfl
    (fun f fn hf hfn => by
      obtain rfl : f = 8 := Option.some.inj ((show Tryd.prog.funcNamed "boarder/boarderlaw04.MsgAreas" = some 8 by kernel_rfl).symm.trans hf) |>.symm
      obtain rfl : fn = Tryd.f8 := (Option.some.inj (Tryd.func8.symm.trans hfn)).symm
      exact ⟨by kernel_rfl, fun j t ht => by
        rw [Tryd.params8] at ht
        match j, ht with
        | 0, ht => cases ht; exact (show Tryd.prog.wantsStandIn 25 = false by kernel_rfl)
        | 1, ht => cases ht; exact (show Tryd.prog.wantsStandIn 23 = false by kernel_rfl)
        | 2, ht => cases ht; exact (show Tryd.prog.wantsStandIn 23 = false by kernel_rfl)
        | n + 3, ht => simp at ht⟩)
    (by kernel_rfl)
end msgAreas

theorem msgAreasCard_holds : Rows.MsgAreasCardSaid := msgAreas.proved
#print axioms msgAreasCard_holds
end Go.Proofs.YtimlalndjfmnbaaDoor
