/- The six laws of chapter 8: each answers true for every input. -/
import Derived.Test.YtoamihggbaaohaaDiskN
namespace Go.Proofs.Ytoamihggbaaohaa
open BoEng Go
set_option maxRecDepth 100000
set_option linter.unusedSimpArgs false
set_option linter.unusedVariables false

theorem lawStays (k : Dk) (a : ActR) (hk : DkOk k) (ha : ActOk a) : Holds Try.prog 8 [.d k.d, .d a.d] (.d (.bool true)) (fun _ => false) := by
  refine Holds.by (by kernel_rfl) Try.func8 (by kernel_rfl) rfl [20002, 20003] (by simp) (by kernel_rfl) (by kernel_rfl) rfl ?_
  conv in ccs _ => cbv
  have g1 := great08 k hk
  have g2 := small08 a ha
  cases h1 : smallK k with
  | false =>
    rw [h1] at g1
    repeat' (first | (simp -implicitDefEqProofs (disch := first | omega | (simp -implicitDefEqProofs <;> omega) | (simp -implicitDefEqProofs [*] <;> omega) | fail) [*, -List.map_take, -List.map_drop, -List.length_flatMap, map_take', map_drop', wrap_in, nth_nat, opt_if, dec_t, dec_f]) | (refine o_call rfl rfl (g1) rfl rfl ?_) | (refine o_call rfl rfl (g2) rfl rfl ?_) | (refine o_call rfl rfl (knows) rfl rfl ?_) | (refine sel_by ?_ ?_ <;> intro hc <;> have hc2 := hc <;> (try simp only [decide_eq_true_eq, decide_eq_false_iff_not, Bool.and_eq_true, Bool.or_eq_true, Bool.not_eq_true', Bool.not_eq_false', Bool.or_eq_false_iff, Bool.and_eq_false_iff] at hc2) <;> try omega) | (refine cnd_by ?_ ?_ <;> intro hc <;> have hc2 := hc <;> (try simp only [decide_eq_true_eq, decide_eq_false_iff_not, Bool.and_eq_true, Bool.or_eq_true, Bool.not_eq_true', Bool.not_eq_false', Bool.or_eq_false_iff, Bool.and_eq_false_iff] at hc2) <;> try omega) | (refine onSt_if (by omega) ?_) | (split <;> try omega) | omega)
  | true =>
    rw [h1] at g1
    cases h2 : smallA a with
    | false =>
      rw [h2] at g2
      repeat' (first | (simp -implicitDefEqProofs (disch := first | omega | (simp -implicitDefEqProofs <;> omega) | (simp -implicitDefEqProofs [*] <;> omega) | fail) [*, -List.map_take, -List.map_drop, -List.length_flatMap, map_take', map_drop', wrap_in, nth_nat, opt_if, dec_t, dec_f]) | (refine o_call rfl rfl (g1) rfl rfl ?_) | (refine o_call rfl rfl (g2) rfl rfl ?_) | (refine o_call rfl rfl (knows) rfl rfl ?_) | (refine sel_by ?_ ?_ <;> intro hc <;> have hc2 := hc <;> (try simp only [decide_eq_true_eq, decide_eq_false_iff_not, Bool.and_eq_true, Bool.or_eq_true, Bool.not_eq_true', Bool.not_eq_false', Bool.or_eq_false_iff, Bool.and_eq_false_iff] at hc2) <;> try omega) | (refine cnd_by ?_ ?_ <;> intro hc <;> have hc2 := hc <;> (try simp only [decide_eq_true_eq, decide_eq_false_iff_not, Bool.and_eq_true, Bool.or_eq_true, Bool.not_eq_true', Bool.not_eq_false', Bool.or_eq_false_iff, Bool.and_eq_false_iff] at hc2) <;> try omega) | (refine onSt_if (by omega) ?_) | (split <;> try omega) | omega)
    | true =>
      rw [h2] at g2
      have q1 := law08Do k a (small_ok h1 hk) (small_sz h2)
      have hr := act_right k a
      obtain ⟨x, hx⟩ : ∃ x, x = actS k a := ⟨_, rfl⟩
      rw [← hx] at q1 hr
      clear hx
      have okx := ok_right hr
      have q2 := diskRight x.1 okx.1
      have q3 := lawAs x.1 okx.1
      have q4 := ref08Right x.1 okx.1 (by have := okx.2; omega)
      rw [hr] at q2 q4
      clear okx hr h1 h2 hk ha
      simp -implicitDefEqProofs (disch := first | omega | (simp -implicitDefEqProofs <;> omega) | (simp -implicitDefEqProofs [*] <;> omega) | fail) [-List.map_take, -List.map_drop, -List.length_flatMap, map_take', map_drop', wrap_in, nth_nat, opt_if, dec_t, dec_f]
      refine o_call rfl rfl g1 rfl rfl ?_
      simp -implicitDefEqProofs (disch := first | omega | (simp -implicitDefEqProofs <;> omega) | (simp -implicitDefEqProofs [*] <;> omega) | fail) [-List.map_take, -List.map_drop, -List.length_flatMap, map_take', map_drop', wrap_in, nth_nat, opt_if, dec_t, dec_f]
      refine o_call rfl rfl g2 rfl rfl ?_
      simp -implicitDefEqProofs (disch := first | omega | (simp -implicitDefEqProofs <;> omega) | (simp -implicitDefEqProofs [*] <;> omega) | fail) [-List.map_take, -List.map_drop, -List.length_flatMap, map_take', map_drop', wrap_in, nth_nat, opt_if, dec_t, dec_f]
      refine o_call rfl rfl q1 rfl rfl ?_
      simp -implicitDefEqProofs (disch := first | omega | (simp -implicitDefEqProofs <;> omega) | (simp -implicitDefEqProofs [*] <;> omega) | fail) [-List.map_take, -List.map_drop, -List.length_flatMap, map_take', map_drop', wrap_in, nth_nat, opt_if, dec_t, dec_f]
      refine o_call rfl rfl q2 rfl rfl ?_
      simp -implicitDefEqProofs (disch := first | omega | (simp -implicitDefEqProofs <;> omega) | (simp -implicitDefEqProofs [*] <;> omega) | fail) [-List.map_take, -List.map_drop, -List.length_flatMap, map_take', map_drop', wrap_in, nth_nat, opt_if, dec_t, dec_f]
      refine o_call rfl rfl q3 rfl rfl ?_
      simp -implicitDefEqProofs (disch := first | omega | (simp -implicitDefEqProofs <;> omega) | (simp -implicitDefEqProofs [*] <;> omega) | fail) [-List.map_take, -List.map_drop, -List.length_flatMap, map_take', map_drop', wrap_in, nth_nat, opt_if, dec_t, dec_f]
      refine o_call rfl rfl q4 rfl rfl ?_
      simp -implicitDefEqProofs (disch := first | omega | (simp -implicitDefEqProofs <;> omega) | (simp -implicitDefEqProofs [*] <;> omega) | fail) [-List.map_take, -List.map_drop, -List.length_flatMap, map_take', map_drop', wrap_in, nth_nat, opt_if, dec_t, dec_f]
      refine o_call rfl rfl knows rfl rfl ?_
      simp -implicitDefEqProofs (disch := first | omega | (simp -implicitDefEqProofs <;> omega) | (simp -implicitDefEqProofs [*] <;> omega) | fail) [-List.map_take, -List.map_drop, -List.length_flatMap, map_take', map_drop', wrap_in, nth_nat, opt_if, dec_t, dec_f]

def lrI (d : Dk) (i : Nat) (S : PS) : Prop :=
  i ≤ d.now.length ∧ S.t 10 = .d (.slice (d.now.map fun e => .str e.name)) ∧ S.t 11 = .ptr (FO + 11) 1 0 ∧ S.t 12 = .d (.int .i64 i) ∧ S.fo = FO ∧ S.gen (FO + 11) = 1 ∧ S.box (FO + 11) = (cells d.d).map .d
theorem lawRights (k : Dk) (name : List UInt8) (hk : DkOk k) : Holds Try.prog 3 [.d k.d, .d (.str name)] (.d (.bool true)) (fun _ => false) := by
  refine Holds.by (by kernel_rfl) Try.func3 (by kernel_rfl) rfl [20002] (by simp) (by kernel_rfl) (by kernel_rfl) rfl ?_
  conv in ccs _ => cbv
  have g1 := great08 k hk
  cases h1 : smallK k with
  | false =>
    rw [h1] at g1
    simp -implicitDefEqProofs (disch := first | omega | (simp -implicitDefEqProofs <;> omega) | (simp -implicitDefEqProofs [*] <;> omega) | fail) [-List.map_take, -List.map_drop, -List.length_flatMap, map_take', map_drop', wrap_in, nth_nat, opt_if, dec_t, dec_f]
    refine o_call rfl rfl g1 rfl rfl ?_
    simp -implicitDefEqProofs (disch := first | omega | (simp -implicitDefEqProofs <;> omega) | (simp -implicitDefEqProofs [*] <;> omega) | fail) [-List.map_take, -List.map_drop, -List.length_flatMap, map_take', map_drop', wrap_in, nth_nat, opt_if, dec_t, dec_f]
    refine o_call rfl rfl knows rfl rfl ?_
    simp -implicitDefEqProofs (disch := first | omega | (simp -implicitDefEqProofs <;> omega) | (simp -implicitDefEqProofs [*] <;> omega) | fail) [-List.map_take, -List.map_drop, -List.length_flatMap, map_take', map_drop', wrap_in, nth_nat, opt_if, dec_t, dec_f]
  | true =>
    rw [h1] at g1
    by_cases h2 : (100 : Int) < name.length
    · simp -implicitDefEqProofs (disch := first | omega | (simp -implicitDefEqProofs <;> omega) | (simp -implicitDefEqProofs [*] <;> omega) | fail) [-List.map_take, -List.map_drop, -List.length_flatMap, map_take', map_drop', wrap_in, nth_nat, opt_if, dec_t, dec_f]
      refine o_call rfl rfl g1 rfl rfl ?_
      simp -implicitDefEqProofs (disch := first | omega | (simp -implicitDefEqProofs <;> omega) | (simp -implicitDefEqProofs [*] <;> omega) | fail) [-List.map_take, -List.map_drop, -List.length_flatMap, map_take', map_drop', wrap_in, nth_nat, opt_if, dec_t, dec_f, h2]
      refine o_call rfl rfl knows rfl rfl ?_
      simp -implicitDefEqProofs (disch := first | omega | (simp -implicitDefEqProofs <;> omega) | (simp -implicitDefEqProofs [*] <;> omega) | fail) [-List.map_take, -List.map_drop, -List.length_flatMap, map_take', map_drop', wrap_in, nth_nat, opt_if, dec_t, dec_f]
    · have ok := small_ok h1 hk
      have q1 := lawAs k ok.1
      have q2 := diskGet k ok name
      have q3 := ref08Get k ok name
      have q4 := diskNames k ok
      have q5 := ref08Good k ok.1 (by have := ok.2; omega)
      have q6 := diskRight k ok.1
      have q7 := ref08Right k ok.1 (by have := ok.2; omega)
      have hll := right_lens (good_right k)
      generalize getS k name = g at *
      generalize goodK k = d at *
      generalize rightK k = r at *
      clear ok h1 hk
      simp -implicitDefEqProofs (disch := first | omega | (simp -implicitDefEqProofs <;> omega) | (simp -implicitDefEqProofs [*] <;> omega) | fail) [-List.map_take, -List.map_drop, -List.length_flatMap, map_take', map_drop', wrap_in, nth_nat, opt_if, dec_t, dec_f]
      refine o_call rfl rfl g1 rfl rfl ?_
      simp -implicitDefEqProofs (disch := first | omega | (simp -implicitDefEqProofs <;> omega) | (simp -implicitDefEqProofs [*] <;> omega) | fail) [-List.map_take, -List.map_drop, -List.length_flatMap, map_take', map_drop', wrap_in, nth_nat, opt_if, dec_t, dec_f, h2]
      refine o_call rfl rfl q1 rfl rfl ?_
      simp -implicitDefEqProofs (disch := first | omega | (simp -implicitDefEqProofs <;> omega) | (simp -implicitDefEqProofs [*] <;> omega) | fail) [-List.map_take, -List.map_drop, -List.length_flatMap, map_take', map_drop', wrap_in, nth_nat, opt_if, dec_t, dec_f]
      refine o_call rfl rfl q2 rfl rfl ?_
      simp -implicitDefEqProofs (disch := first | omega | (simp -implicitDefEqProofs <;> omega) | (simp -implicitDefEqProofs [*] <;> omega) | fail) [-List.map_take, -List.map_drop, -List.length_flatMap, map_take', map_drop', wrap_in, nth_nat, opt_if, dec_t, dec_f]
      refine o_call rfl rfl q3 rfl rfl ?_
      simp -implicitDefEqProofs (disch := first | omega | (simp -implicitDefEqProofs <;> omega) | (simp -implicitDefEqProofs [*] <;> omega) | fail) [-List.map_take, -List.map_drop, -List.length_flatMap, map_take', map_drop', wrap_in, nth_nat, opt_if, dec_t, dec_f]
      refine o_call rfl rfl q4 rfl rfl ?_
      simp -implicitDefEqProofs (disch := first | omega | (simp -implicitDefEqProofs <;> omega) | (simp -implicitDefEqProofs [*] <;> omega) | fail) [-List.map_take, -List.map_drop, -List.length_flatMap, map_take', map_drop', wrap_in, nth_nat, opt_if, dec_t, dec_f]
      refine o_call rfl rfl q5 rfl rfl ?_
      simp -implicitDefEqProofs (disch := first | omega | (simp -implicitDefEqProofs <;> omega) | (simp -implicitDefEqProofs [*] <;> omega) | fail) [-List.map_take, -List.map_drop, -List.length_flatMap, map_take', map_drop', wrap_in, nth_nat, opt_if, dec_t, dec_f]
      refine o_call rfl rfl q6 rfl rfl ?_
      simp -implicitDefEqProofs (disch := first | omega | (simp -implicitDefEqProofs <;> omega) | (simp -implicitDefEqProofs [*] <;> omega) | fail) [-List.map_take, -List.map_drop, -List.length_flatMap, map_take', map_drop', wrap_in, nth_nat, opt_if, dec_t, dec_f]
      refine o_call rfl rfl q7 rfl rfl ?_
      simp -implicitDefEqProofs (disch := first | omega | (simp -implicitDefEqProofs <;> omega) | (simp -implicitDefEqProofs [*] <;> omega) | fail) [-List.map_take, -List.map_drop, -List.length_flatMap, map_take', map_drop', wrap_in, nth_nat, opt_if, dec_t, dec_f]
      refine lp (lrI d) (fun i => d.now.length - i) 0 ⟨by omega, by simp, by simp, by simp, by simp, by simp, by simp⟩ ?_
      rintro i S ⟨hi, e10, e11, e12, efo, g11, b11⟩
      by_cases hlt : i < d.now.length
      · have k6 : (i : Int) < d.now.length := by omega
        simp -implicitDefEqProofs (disch := first | omega | (simp -implicitDefEqProofs <;> omega) | (simp -implicitDefEqProofs [*] <;> omega) | fail) [-List.map_take, -List.map_drop, -List.length_flatMap, map_take', map_drop', wrap_in, nth_nat, opt_if, dec_t, dec_f, e10, e11, e12, efo, g11, b11, k6]
        exact nxt_of (i + 1) ⟨by omega, by simp -implicitDefEqProofs (disch := first | omega | (simp -implicitDefEqProofs <;> omega) | (simp -implicitDefEqProofs [*] <;> omega) | fail) [-List.map_take, -List.map_drop, -List.length_flatMap, map_take', map_drop', wrap_in, nth_nat, opt_if, dec_t, dec_f, e10], by simp -implicitDefEqProofs (disch := first | omega | (simp -implicitDefEqProofs <;> omega) | (simp -implicitDefEqProofs [*] <;> omega) | fail) [-List.map_take, -List.map_drop, -List.length_flatMap, map_take', map_drop', wrap_in, nth_nat, opt_if, dec_t, dec_f, e11], by simp, by simp -implicitDefEqProofs (disch := first | omega | (simp -implicitDefEqProofs <;> omega) | (simp -implicitDefEqProofs [*] <;> omega) | fail) [-List.map_take, -List.map_drop, -List.length_flatMap, map_take', map_drop', wrap_in, nth_nat, opt_if, dec_t, dec_f, efo], by simp -implicitDefEqProofs (disch := first | omega | (simp -implicitDefEqProofs <;> omega) | (simp -implicitDefEqProofs [*] <;> omega) | fail) [-List.map_take, -List.map_drop, -List.length_flatMap, map_take', map_drop', wrap_in, nth_nat, opt_if, dec_t, dec_f, g11, efo], by simp -implicitDefEqProofs (disch := first | omega | (simp -implicitDefEqProofs <;> omega) | (simp -implicitDefEqProofs [*] <;> omega) | fail) [-List.map_take, -List.map_drop, -List.length_flatMap, map_take', map_drop', wrap_in, nth_nat, opt_if, dec_t, dec_f, b11, efo]⟩ (by omega)
      · have k6 : ¬ (i : Int) < d.now.length := by omega
        simp -implicitDefEqProofs (disch := first | omega | (simp -implicitDefEqProofs <;> omega) | (simp -implicitDefEqProofs [*] <;> omega) | fail) [-List.map_take, -List.map_drop, -List.length_flatMap, map_take', map_drop', wrap_in, nth_nat, opt_if, dec_t, dec_f, e10, e11, e12, efo, g11, b11, k6]
        refine o_call rfl rfl knows rfl rfl ?_
        simp -implicitDefEqProofs (disch := first | omega | (simp -implicitDefEqProofs <;> omega) | (simp -implicitDefEqProofs [*] <;> omega) | fail) [-List.map_take, -List.map_drop, -List.length_flatMap, map_take', map_drop', wrap_in, nth_nat, opt_if, dec_t, dec_f]

def plI (l : List ActR) (q : Nat × Dk) (S : PS) : Prop :=
  q.1 ≤ l.length ∧ okK q.2 ∧ S.t 1 = .d (.slice (l.map ActR.d)) ∧ S.t 2 = .ptr (FO + 2) 1 0 ∧ S.t 5 = .ptr (FO + 5) 1 0 ∧ S.t 6 = .d (.int .i64 q.1) ∧ S.fo = FO ∧ S.gen (FO + 2) = 1 ∧ S.gen (FO + 5) = 1 ∧ S.box (FO + 2) = (cells q.2.d).map .d ∧ S.box (FO + 5) = (cells q.2.d).map .d
theorem lawPlays (k : Dk) (l : List ActR) (hk : DkOk k) (hl : l.length ≤ 9223372036854775807) (ha : ∀ a ∈ l, ActOk a) : Holds Try.prog 7 [.d k.d, .d (.slice (l.map ActR.d))] (.d (.bool true)) (fun _ => false) := by
  refine Holds.by (by kernel_rfl) Try.func7 (by kernel_rfl) rfl [3014002, 3005005, 3033002, 3007007, 50036, 50037, 3042005, 3009009, 50045, 50046, 3060007, 3061009, 5060002, 5061005] (by simp) (by kernel_rfl) (by kernel_rfl) rfl ?_
  conv in ccs _ => cbv
  have g1 := great08 k hk
  cases h1 : smallK k with
  | false =>
    rw [h1] at g1
    simp -implicitDefEqProofs (disch := first | omega | (simp -implicitDefEqProofs <;> omega) | (simp -implicitDefEqProofs [*] <;> omega) | fail) [-List.map_take, -List.map_drop, -List.length_flatMap, map_take', map_drop', wrap_in, nth_nat, opt_if, dec_t, dec_f]
    refine o_call rfl rfl g1 rfl rfl ?_
    simp -implicitDefEqProofs (disch := first | omega | (simp -implicitDefEqProofs <;> omega) | (simp -implicitDefEqProofs [*] <;> omega) | fail) [-List.map_take, -List.map_drop, -List.length_flatMap, map_take', map_drop', wrap_in, nth_nat, opt_if, dec_t, dec_f]
    refine o_call rfl rfl knows rfl rfl ?_
    simp -implicitDefEqProofs (disch := first | omega | (simp -implicitDefEqProofs <;> omega) | (simp -implicitDefEqProofs [*] <;> omega) | fail) [-List.map_take, -List.map_drop, -List.length_flatMap, map_take', map_drop', wrap_in, nth_nat, opt_if, dec_t, dec_f]
  | true =>
    rw [h1] at g1
    have ok := small_ok h1 hk
    have q1 := lawAs k ok.1
    simp -implicitDefEqProofs (disch := first | omega | (simp -implicitDefEqProofs <;> omega) | (simp -implicitDefEqProofs [*] <;> omega) | fail) [-List.map_take, -List.map_drop, -List.length_flatMap, map_take', map_drop', wrap_in, nth_nat, opt_if, dec_t, dec_f]
    refine o_call rfl rfl g1 rfl rfl ?_
    simp -implicitDefEqProofs (disch := first | omega | (simp -implicitDefEqProofs <;> omega) | (simp -implicitDefEqProofs [*] <;> omega) | fail) [-List.map_take, -List.map_drop, -List.length_flatMap, map_take', map_drop', wrap_in, nth_nat, opt_if, dec_t, dec_f]
    refine o_call rfl rfl q1 rfl rfl ?_
    simp -implicitDefEqProofs (disch := first | omega | (simp -implicitDefEqProofs <;> omega) | (simp -implicitDefEqProofs [*] <;> omega) | fail) [-List.map_take, -List.map_drop, -List.length_flatMap, map_take', map_drop', wrap_in, nth_nat, opt_if, dec_t, dec_f]
    refine lp (plI l) (fun q => l.length - q.1) (0, k) ⟨by simp, ok, by simp, by simp, by simp, by simp, by simp, by simp, by simp, by simp, by simp⟩ ?_
    clear q1 g1 ok h1 hk
    rintro ⟨i, x⟩ S ⟨hi, hx, e1, e2, e5, e6, efo, g2, g5, b2, b5⟩
    dsimp only at hi hx e1 e2 e5 e6 g2 g5 b2 b5
    have hend : ∀ S : PS, S.fo = FO → True := fun _ _ => trivial
    by_cases hlt : i < l.length
    · have k6 : (i : Int) < l.length := by omega
      by_cases h20 : (i : Int) < 20
      · have g2' := small08 l[i] (ha _ (List.getElem_mem hlt))
        cases h2 : smallA l[i] with
        | false =>
          rw [h2] at g2'
          simp -implicitDefEqProofs (disch := first | omega | (simp -implicitDefEqProofs <;> omega) | (simp -implicitDefEqProofs [*] <;> omega) | fail) [-List.map_take, -List.map_drop, -List.length_flatMap, map_take', map_drop', wrap_in, nth_nat, opt_if, dec_t, dec_f, e1, e2, e5, e6, efo, g2, g5, b2, b5, k6, h20]
          refine o_call rfl rfl g2' rfl rfl ?_
          simp -implicitDefEqProofs (disch := first | omega | (simp -implicitDefEqProofs <;> omega) | (simp -implicitDefEqProofs [*] <;> omega) | fail) [-List.map_take, -List.map_drop, -List.length_flatMap, map_take', map_drop', wrap_in, nth_nat, opt_if, dec_t, dec_f, e1, e2, e5, e6, efo, g2, g5, b2, b5, k6, h20]
          exact nxt_of (i + 1, x) ⟨by show i + 1 ≤ _; omega, hx, by simp -implicitDefEqProofs (disch := first | omega | (simp -implicitDefEqProofs <;> omega) | (simp -implicitDefEqProofs [*] <;> omega) | fail) [-List.map_take, -List.map_drop, -List.length_flatMap, map_take', map_drop', wrap_in, nth_nat, opt_if, dec_t, dec_f, e1], by simp -implicitDefEqProofs (disch := first | omega | (simp -implicitDefEqProofs <;> omega) | (simp -implicitDefEqProofs [*] <;> omega) | fail) [-List.map_take, -List.map_drop, -List.length_flatMap, map_take', map_drop', wrap_in, nth_nat, opt_if, dec_t, dec_f, e2], by simp -implicitDefEqProofs (disch := first | omega | (simp -implicitDefEqProofs <;> omega) | (simp -implicitDefEqProofs [*] <;> omega) | fail) [-List.map_take, -List.map_drop, -List.length_flatMap, map_take', map_drop', wrap_in, nth_nat, opt_if, dec_t, dec_f, e5], by simp, by simp -implicitDefEqProofs (disch := first | omega | (simp -implicitDefEqProofs <;> omega) | (simp -implicitDefEqProofs [*] <;> omega) | fail) [-List.map_take, -List.map_drop, -List.length_flatMap, map_take', map_drop', wrap_in, nth_nat, opt_if, dec_t, dec_f, efo], by simp -implicitDefEqProofs (disch := first | omega | (simp -implicitDefEqProofs <;> omega) | (simp -implicitDefEqProofs [*] <;> omega) | fail) [-List.map_take, -List.map_drop, -List.length_flatMap, map_take', map_drop', wrap_in, nth_nat, opt_if, dec_t, dec_f, g2, efo], by simp -implicitDefEqProofs (disch := first | omega | (simp -implicitDefEqProofs <;> omega) | (simp -implicitDefEqProofs [*] <;> omega) | fail) [-List.map_take, -List.map_drop, -List.length_flatMap, map_take', map_drop', wrap_in, nth_nat, opt_if, dec_t, dec_f, g5, efo], by simp -implicitDefEqProofs (disch := first | omega | (simp -implicitDefEqProofs <;> omega) | (simp -implicitDefEqProofs [*] <;> omega) | fail) [-List.map_take, -List.map_drop, -List.length_flatMap, map_take', map_drop', wrap_in, nth_nat, opt_if, dec_t, dec_f, b2, efo], by simp -implicitDefEqProofs (disch := first | omega | (simp -implicitDefEqProofs <;> omega) | (simp -implicitDefEqProofs [*] <;> omega) | fail) [-List.map_take, -List.map_drop, -List.length_flatMap, map_take', map_drop', wrap_in, nth_nat, opt_if, dec_t, dec_f, b5, efo]⟩ (by show l.length - (i + 1) < l.length - i; omega)
        | true =>
          rw [h2] at g2'
          have q2 := law08Do x l[i] hx (small_sz h2)
          have q3 := law08Means x l[i] hx (small_sz h2)
          have hr := act_right x l[i]
          obtain ⟨y, hy⟩ : ∃ y, y = actS x l[i] := ⟨_, rfl⟩
          rw [← hy] at q2 q3 hr
          clear hy
          have oky := ok_right hr
          have q4 := lawAs y.1 oky.1
          have q5 := ref08Same y.1 oky
          simp -implicitDefEqProofs (disch := first | omega | (simp -implicitDefEqProofs <;> omega) | (simp -implicitDefEqProofs [*] <;> omega) | fail) [-List.map_take, -List.map_drop, -List.length_flatMap, map_take', map_drop', wrap_in, nth_nat, opt_if, dec_t, dec_f, e1, e2, e5, e6, efo, g2, g5, b2, b5, k6, h20]
          refine o_call rfl rfl g2' rfl rfl ?_
          simp -implicitDefEqProofs (disch := first | omega | (simp -implicitDefEqProofs <;> omega) | (simp -implicitDefEqProofs [*] <;> omega) | fail) [-List.map_take, -List.map_drop, -List.length_flatMap, map_take', map_drop', wrap_in, nth_nat, opt_if, dec_t, dec_f, e1, e2, e5, e6, efo, g2, g5, b2, b5, k6, h20]
          refine o_call rfl rfl q2 rfl rfl ?_
          simp -implicitDefEqProofs (disch := first | omega | (simp -implicitDefEqProofs <;> omega) | (simp -implicitDefEqProofs [*] <;> omega) | fail) [-List.map_take, -List.map_drop, -List.length_flatMap, map_take', map_drop', wrap_in, nth_nat, opt_if, dec_t, dec_f, e1, e2, e5, e6, efo, g2, g5, b2, b5, k6, h20]
          refine o_call rfl rfl q3 rfl rfl ?_
          simp -implicitDefEqProofs (disch := first | omega | (simp -implicitDefEqProofs <;> omega) | (simp -implicitDefEqProofs [*] <;> omega) | fail) [-List.map_take, -List.map_drop, -List.length_flatMap, map_take', map_drop', wrap_in, nth_nat, opt_if, dec_t, dec_f, e1, e2, e5, e6, efo, g2, g5, b2, b5, k6, h20]
          refine o_call rfl rfl q4 rfl rfl ?_
          simp -implicitDefEqProofs (disch := first | omega | (simp -implicitDefEqProofs <;> omega) | (simp -implicitDefEqProofs [*] <;> omega) | fail) [-List.map_take, -List.map_drop, -List.length_flatMap, map_take', map_drop', wrap_in, nth_nat, opt_if, dec_t, dec_f, e1, e2, e5, e6, efo, g2, g5, b2, b5, k6, h20]
          refine o_call rfl rfl q5 rfl rfl ?_
          simp -implicitDefEqProofs (disch := first | omega | (simp -implicitDefEqProofs <;> omega) | (simp -implicitDefEqProofs [*] <;> omega) | fail) [-List.map_take, -List.map_drop, -List.length_flatMap, map_take', map_drop', wrap_in, nth_nat, opt_if, dec_t, dec_f, e1, e2, e5, e6, efo, g2, g5, b2, b5, k6, h20]
          exact nxt_of (i + 1, y.1) ⟨by show i + 1 ≤ _; omega, oky, by simp -implicitDefEqProofs (disch := first | omega | (simp -implicitDefEqProofs <;> omega) | (simp -implicitDefEqProofs [*] <;> omega) | fail) [-List.map_take, -List.map_drop, -List.length_flatMap, map_take', map_drop', wrap_in, nth_nat, opt_if, dec_t, dec_f, e1], by simp -implicitDefEqProofs (disch := first | omega | (simp -implicitDefEqProofs <;> omega) | (simp -implicitDefEqProofs [*] <;> omega) | fail) [-List.map_take, -List.map_drop, -List.length_flatMap, map_take', map_drop', wrap_in, nth_nat, opt_if, dec_t, dec_f, e2], by simp -implicitDefEqProofs (disch := first | omega | (simp -implicitDefEqProofs <;> omega) | (simp -implicitDefEqProofs [*] <;> omega) | fail) [-List.map_take, -List.map_drop, -List.length_flatMap, map_take', map_drop', wrap_in, nth_nat, opt_if, dec_t, dec_f, e5], by simp, by simp -implicitDefEqProofs (disch := first | omega | (simp -implicitDefEqProofs <;> omega) | (simp -implicitDefEqProofs [*] <;> omega) | fail) [-List.map_take, -List.map_drop, -List.length_flatMap, map_take', map_drop', wrap_in, nth_nat, opt_if, dec_t, dec_f, efo], by simp -implicitDefEqProofs (disch := first | omega | (simp -implicitDefEqProofs <;> omega) | (simp -implicitDefEqProofs [*] <;> omega) | fail) [-List.map_take, -List.map_drop, -List.length_flatMap, map_take', map_drop', wrap_in, nth_nat, opt_if, dec_t, dec_f, g2, efo], by simp -implicitDefEqProofs (disch := first | omega | (simp -implicitDefEqProofs <;> omega) | (simp -implicitDefEqProofs [*] <;> omega) | fail) [-List.map_take, -List.map_drop, -List.length_flatMap, map_take', map_drop', wrap_in, nth_nat, opt_if, dec_t, dec_f, g5, efo], by simp -implicitDefEqProofs (disch := first | omega | (simp -implicitDefEqProofs <;> omega) | (simp -implicitDefEqProofs [*] <;> omega) | fail) [-List.map_take, -List.map_drop, -List.length_flatMap, map_take', map_drop', wrap_in, nth_nat, opt_if, dec_t, dec_f, b2, efo], by simp -implicitDefEqProofs (disch := first | omega | (simp -implicitDefEqProofs <;> omega) | (simp -implicitDefEqProofs [*] <;> omega) | fail) [-List.map_take, -List.map_drop, -List.length_flatMap, map_take', map_drop', wrap_in, nth_nat, opt_if, dec_t, dec_f, b5, efo]⟩ (by show l.length - (i + 1) < l.length - i; omega)
      · simp -implicitDefEqProofs (disch := first | omega | (simp -implicitDefEqProofs <;> omega) | (simp -implicitDefEqProofs [*] <;> omega) | fail) [-List.map_take, -List.map_drop, -List.length_flatMap, map_take', map_drop', wrap_in, nth_nat, opt_if, dec_t, dec_f, e1, e2, e5, e6, efo, g2, g5, b2, b5, k6, h20]
        refine o_call rfl rfl knows rfl rfl ?_
        simp -implicitDefEqProofs (disch := first | omega | (simp -implicitDefEqProofs <;> omega) | (simp -implicitDefEqProofs [*] <;> omega) | fail) [-List.map_take, -List.map_drop, -List.length_flatMap, map_take', map_drop', wrap_in, nth_nat, opt_if, dec_t, dec_f]
    · have k6 : ¬ (i : Int) < l.length := by omega
      simp -implicitDefEqProofs (disch := first | omega | (simp -implicitDefEqProofs <;> omega) | (simp -implicitDefEqProofs [*] <;> omega) | fail) [-List.map_take, -List.map_drop, -List.length_flatMap, map_take', map_drop', wrap_in, nth_nat, opt_if, dec_t, dec_f, e1, e2, e5, e6, efo, g2, g5, b2, b5, k6]
      refine o_call rfl rfl knows rfl rfl ?_
      simp -implicitDefEqProofs (disch := first | omega | (simp -implicitDefEqProofs <;> omega) | (simp -implicitDefEqProofs [*] <;> omega) | fail) [-List.map_take, -List.map_drop, -List.length_flatMap, map_take', map_drop', wrap_in, nth_nat, opt_if, dec_t, dec_f]

def ltI (was name : List UInt8) (l : List ActR) (keep : List Int) (dir : Bool) (q : Nat × Dk) (S : PS) : Prop :=
  q.1 ≤ l.length ∧ Lst was name q.2 ∧ S.t 1 = .d (.str name) ∧ S.t 3 = .d (.slice (l.map ActR.d)) ∧ S.t 4 = .d (.slice (keep.map intD)) ∧ S.t 5 = .d (.bool dir) ∧ S.t 13 = .ptr (FO + 13) 1 0 ∧ S.t 16 = .d (.slice (was.map byteD)) ∧ S.t 18 = .d (.int .i64 q.1) ∧ S.fo = FO ∧ S.gen (FO + 13) = 1 ∧ S.box (FO + 13) = (cells q.2.d).map .d
theorem lawLasts (k : Dk) (name b : List UInt8) (l : List ActR) (keep : List Int) (dir : Bool) (hk : DkOk k) (hn : name.length ≤ 9223372036854775807) (hl : l.length ≤ 9223372036854775807) (ha : ∀ a ∈ l, ActOk a) :
    Holds Try.prog 4 [.d k.d, .d (.str name), .d (.slice (b.map byteD)), .d (.slice (l.map ActR.d)), .d (.slice (keep.map intD)), .d (.bool dir)] (.d (.bool true)) (fun _ => false) := by
  refine Holds.by (by kernel_rfl) Try.func4 (by kernel_rfl) rfl [20006, 50042, 3089013, 3019019, 50092, 50094, 50098, 50100] (by simp) (by kernel_rfl) (by kernel_rfl) rfl ?_
  conv in ccs _ => cbv
  have g1 := great08 k hk
  cases h1 : smallK k with
  | false =>
    rw [h1] at g1
    simp -implicitDefEqProofs (disch := first | omega | (simp -implicitDefEqProofs <;> omega) | (simp -implicitDefEqProofs [*] <;> omega) | fail) [-List.map_take, -List.map_drop, -List.length_flatMap, map_take', map_drop', wrap_in, nth_nat, opt_if, dec_t, dec_f]
    refine o_call rfl rfl g1 rfl rfl ?_
    simp -implicitDefEqProofs (disch := first | omega | (simp -implicitDefEqProofs <;> omega) | (simp -implicitDefEqProofs [*] <;> omega) | fail) [-List.map_take, -List.map_drop, -List.length_flatMap, map_take', map_drop', wrap_in, nth_nat, opt_if, dec_t, dec_f]
    refine o_call rfl rfl knows rfl rfl ?_
    simp -implicitDefEqProofs (disch := first | omega | (simp -implicitDefEqProofs <;> omega) | (simp -implicitDefEqProofs [*] <;> omega) | fail) [-List.map_take, -List.map_drop, -List.length_flatMap, map_take', map_drop', wrap_in, nth_nat, opt_if, dec_t, dec_f]
  | true =>
  rw [h1] at g1
  by_cases c1 : (100 : Int) < name.length
  · simp -implicitDefEqProofs (disch := first | omega | (simp -implicitDefEqProofs <;> omega) | (simp -implicitDefEqProofs [*] <;> omega) | fail) [-List.map_take, -List.map_drop, -List.length_flatMap, map_take', map_drop', wrap_in, nth_nat, opt_if, dec_t, dec_f]
    refine o_call rfl rfl g1 rfl rfl ?_
    simp -implicitDefEqProofs (disch := first | omega | (simp -implicitDefEqProofs <;> omega) | (simp -implicitDefEqProofs [*] <;> omega) | fail) [-List.map_take, -List.map_drop, -List.length_flatMap, map_take', map_drop', wrap_in, nth_nat, opt_if, dec_t, dec_f, c1]
    refine o_call rfl rfl knows rfl rfl ?_
    simp -implicitDefEqProofs (disch := first | omega | (simp -implicitDefEqProofs <;> omega) | (simp -implicitDefEqProofs [*] <;> omega) | fail) [-List.map_take, -List.map_drop, -List.length_flatMap, map_take', map_drop', wrap_in, nth_nat, opt_if, dec_t, dec_f]
  by_cases c2 : (10000 : Int) < b.length
  · simp -implicitDefEqProofs (disch := first | omega | (simp -implicitDefEqProofs <;> omega) | (simp -implicitDefEqProofs [*] <;> omega) | fail) [-List.map_take, -List.map_drop, -List.length_flatMap, map_take', map_drop', wrap_in, nth_nat, opt_if, dec_t, dec_f]
    refine o_call rfl rfl g1 rfl rfl ?_
    simp -implicitDefEqProofs (disch := first | omega | (simp -implicitDefEqProofs <;> omega) | (simp -implicitDefEqProofs [*] <;> omega) | fail) [-List.map_take, -List.map_drop, -List.length_flatMap, map_take', map_drop', wrap_in, nth_nat, opt_if, dec_t, dec_f, c1, c2]
    refine o_call rfl rfl knows rfl rfl ?_
    simp -implicitDefEqProofs (disch := first | omega | (simp -implicitDefEqProofs <;> omega) | (simp -implicitDefEqProofs [*] <;> omega) | fail) [-List.map_take, -List.map_drop, -List.length_flatMap, map_take', map_drop', wrap_in, nth_nat, opt_if, dec_t, dec_f]
  by_cases c3 : (100 : Int) < keep.length
  · simp -implicitDefEqProofs (disch := first | omega | (simp -implicitDefEqProofs <;> omega) | (simp -implicitDefEqProofs [*] <;> omega) | fail) [-List.map_take, -List.map_drop, -List.length_flatMap, map_take', map_drop', wrap_in, nth_nat, opt_if, dec_t, dec_f]
    refine o_call rfl rfl g1 rfl rfl ?_
    simp -implicitDefEqProofs (disch := first | omega | (simp -implicitDefEqProofs <;> omega) | (simp -implicitDefEqProofs [*] <;> omega) | fail) [-List.map_take, -List.map_drop, -List.length_flatMap, map_take', map_drop', wrap_in, nth_nat, opt_if, dec_t, dec_f, c1, c2, c3]
    refine o_call rfl rfl knows rfl rfl ?_
    simp -implicitDefEqProofs (disch := first | omega | (simp -implicitDefEqProofs <;> omega) | (simp -implicitDefEqProofs [*] <;> omega) | fail) [-List.map_take, -List.map_drop, -List.length_flatMap, map_take', map_drop', wrap_in, nth_nat, opt_if, dec_t, dec_f]
  have ok := small_ok h1 hk
  have q1 := diskAppend k ok name b hn (by omega)
  by_cases he : (appendS k name b).2 = 0
  · have hx := append_right k name b
    obtain ⟨f1, f2, f3⟩ := lasts_1 k name b he
    rw [he] at q1
    generalize (appendS k name b).1 = x at *
    have okx := ok_right hx
    have q2 := diskSync x okx name
    have hy := sync_right x name
    rw [f1] at q2
    generalize (syncS x name).1 = y at *
    have oky := ok_right hy
    have q3 := diskSyncDir y oky
    have hz := syncDir_right y
    generalize syncDirS y = z at *
    have okz := ok_right hz
    have q4 := diskGet z okz name
    rw [f2] at q4
    generalize (getS z name).1 = was at *
    clear f1 f2 he ok h1 hk okx oky okz hx hy hz
    simp -implicitDefEqProofs (disch := first | omega | (simp -implicitDefEqProofs <;> omega) | (simp -implicitDefEqProofs [*] <;> omega) | fail) [-List.map_take, -List.map_drop, -List.length_flatMap, map_take', map_drop', wrap_in, nth_nat, opt_if, dec_t, dec_f]
    refine o_call rfl rfl g1 rfl rfl ?_
    simp -implicitDefEqProofs (disch := first | omega | (simp -implicitDefEqProofs <;> omega) | (simp -implicitDefEqProofs [*] <;> omega) | fail) [-List.map_take, -List.map_drop, -List.length_flatMap, map_take', map_drop', wrap_in, nth_nat, opt_if, dec_t, dec_f, c1, c2, c3]
    refine o_call rfl rfl q1 rfl rfl ?_
    simp -implicitDefEqProofs (disch := first | omega | (simp -implicitDefEqProofs <;> omega) | (simp -implicitDefEqProofs [*] <;> omega) | fail) [-List.map_take, -List.map_drop, -List.length_flatMap, map_take', map_drop', wrap_in, nth_nat, opt_if, dec_t, dec_f]
    refine o_call rfl rfl q2 rfl rfl ?_
    simp -implicitDefEqProofs (disch := first | omega | (simp -implicitDefEqProofs <;> omega) | (simp -implicitDefEqProofs [*] <;> omega) | fail) [-List.map_take, -List.map_drop, -List.length_flatMap, map_take', map_drop', wrap_in, nth_nat, opt_if, dec_t, dec_f]
    refine o_call rfl rfl q3 rfl rfl ?_
    simp -implicitDefEqProofs (disch := first | omega | (simp -implicitDefEqProofs <;> omega) | (simp -implicitDefEqProofs [*] <;> omega) | fail) [-List.map_take, -List.map_drop, -List.length_flatMap, map_take', map_drop', wrap_in, nth_nat, opt_if, dec_t, dec_f]
    refine o_call rfl rfl q4 rfl rfl ?_
    simp -implicitDefEqProofs (disch := first | omega | (simp -implicitDefEqProofs <;> omega) | (simp -implicitDefEqProofs [*] <;> omega) | fail) [-List.map_take, -List.map_drop, -List.length_flatMap, map_take', map_drop', wrap_in, nth_nat, opt_if, dec_t, dec_f]
    refine lp (ltI was name l keep dir) (fun q => l.length - q.1) (0, z) ⟨by simp, f3, by simp, by simp, by simp, by simp, by simp, by simp, by simp, by simp, by simp, by simp⟩ ?_
    clear q1 q2 q3 q4 g1 f3 x y z
    rintro ⟨i, x⟩ S ⟨hi, hx, e1, e3, e4, e5, e13, e16, e18, efo, g13, b13⟩
    dsimp only at hi hx e1 e3 e4 e5 e13 e16 e18 g13 b13
    have okx := ok_right hx.r
    have hend : ∀ (keep : List Int) (dir : Bool), True := fun _ _ => trivial
    by_cases hlt : i < l.length ∧ (i : Int) < 20 ∧ (i : Int) < 10
    · obtain ⟨hlt, _, h10⟩ := hlt
      have k6 : (i : Int) < l.length := by omega
      have g2' := small08 l[i] (ha _ (List.getElem_mem hlt))
      cases h2 : smallA l[i] with
      | false =>
        rw [h2] at g2'
        simp -implicitDefEqProofs (disch := first | omega | (simp -implicitDefEqProofs <;> omega) | (simp -implicitDefEqProofs [*] <;> omega) | fail) [-List.map_take, -List.map_drop, -List.length_flatMap, map_take', map_drop', wrap_in, nth_nat, opt_if, dec_t, dec_f, e1, e3, e4, e5, e13, e16, e18, efo, g13, b13, k6, h10]
        refine o_call rfl rfl g2' rfl rfl ?_
        simp -implicitDefEqProofs (disch := first | omega | (simp -implicitDefEqProofs <;> omega) | (simp -implicitDefEqProofs [*] <;> omega) | fail) [-List.map_take, -List.map_drop, -List.length_flatMap, map_take', map_drop', wrap_in, nth_nat, opt_if, dec_t, dec_f, e1, e3, e4, e5, e13, e16, e18, efo, g13, b13, k6, h10]
        exact nxt_of (i + 1, x) ⟨by show i + 1 ≤ _; omega, hx, by simp -implicitDefEqProofs (disch := first | omega | (simp -implicitDefEqProofs <;> omega) | (simp -implicitDefEqProofs [*] <;> omega) | fail) [-List.map_take, -List.map_drop, -List.length_flatMap, map_take', map_drop', wrap_in, nth_nat, opt_if, dec_t, dec_f, e1], by simp -implicitDefEqProofs (disch := first | omega | (simp -implicitDefEqProofs <;> omega) | (simp -implicitDefEqProofs [*] <;> omega) | fail) [-List.map_take, -List.map_drop, -List.length_flatMap, map_take', map_drop', wrap_in, nth_nat, opt_if, dec_t, dec_f, e3], by simp -implicitDefEqProofs (disch := first | omega | (simp -implicitDefEqProofs <;> omega) | (simp -implicitDefEqProofs [*] <;> omega) | fail) [-List.map_take, -List.map_drop, -List.length_flatMap, map_take', map_drop', wrap_in, nth_nat, opt_if, dec_t, dec_f, e4], by simp -implicitDefEqProofs (disch := first | omega | (simp -implicitDefEqProofs <;> omega) | (simp -implicitDefEqProofs [*] <;> omega) | fail) [-List.map_take, -List.map_drop, -List.length_flatMap, map_take', map_drop', wrap_in, nth_nat, opt_if, dec_t, dec_f, e5], by simp -implicitDefEqProofs (disch := first | omega | (simp -implicitDefEqProofs <;> omega) | (simp -implicitDefEqProofs [*] <;> omega) | fail) [-List.map_take, -List.map_drop, -List.length_flatMap, map_take', map_drop', wrap_in, nth_nat, opt_if, dec_t, dec_f, e13], by simp -implicitDefEqProofs (disch := first | omega | (simp -implicitDefEqProofs <;> omega) | (simp -implicitDefEqProofs [*] <;> omega) | fail) [-List.map_take, -List.map_drop, -List.length_flatMap, map_take', map_drop', wrap_in, nth_nat, opt_if, dec_t, dec_f, e16], by simp, by simp -implicitDefEqProofs (disch := first | omega | (simp -implicitDefEqProofs <;> omega) | (simp -implicitDefEqProofs [*] <;> omega) | fail) [-List.map_take, -List.map_drop, -List.length_flatMap, map_take', map_drop', wrap_in, nth_nat, opt_if, dec_t, dec_f, efo], by simp -implicitDefEqProofs (disch := first | omega | (simp -implicitDefEqProofs <;> omega) | (simp -implicitDefEqProofs [*] <;> omega) | fail) [-List.map_take, -List.map_drop, -List.length_flatMap, map_take', map_drop', wrap_in, nth_nat, opt_if, dec_t, dec_f, g13, efo], by simp -implicitDefEqProofs (disch := first | omega | (simp -implicitDefEqProofs <;> omega) | (simp -implicitDefEqProofs [*] <;> omega) | fail) [-List.map_take, -List.map_drop, -List.length_flatMap, map_take', map_drop', wrap_in, nth_nat, opt_if, dec_t, dec_f, b13, efo]⟩ (by show l.length - (i + 1) < l.length - i; omega)
      | true =>
        rw [h2] at g2'
        have hsz := small_sz h2
        have hbl := hsz.2.2.1
        have q2 := diskAppend x okx l[i].name l[i].b hsz.1 hsz.2.2.1
        have hy := lasts_2 hx l[i].name l[i].b
        generalize appendS x l[i].name l[i].b = y at *
        simp -implicitDefEqProofs (disch := first | omega | (simp -implicitDefEqProofs <;> omega) | (simp -implicitDefEqProofs [*] <;> omega) | fail) [-List.map_take, -List.map_drop, -List.length_flatMap, map_take', map_drop', wrap_in, nth_nat, opt_if, dec_t, dec_f, e1, e3, e4, e5, e13, e16, e18, efo, g13, b13, k6, h10]
        refine o_call rfl rfl g2' rfl rfl ?_
        simp -implicitDefEqProofs (disch := first | omega | (simp -implicitDefEqProofs <;> omega) | (simp -implicitDefEqProofs [*] <;> omega) | fail) [-List.map_take, -List.map_drop, -List.length_flatMap, map_take', map_drop', wrap_in, nth_nat, opt_if, dec_t, dec_f, e1, e3, e4, e5, e13, e16, e18, efo, g13, b13, k6, h10]
        refine o_call rfl rfl q2 rfl rfl ?_
        simp -implicitDefEqProofs (disch := first | omega | (simp -implicitDefEqProofs <;> omega) | (simp -implicitDefEqProofs [*] <;> omega) | fail) [-List.map_take, -List.map_drop, -List.length_flatMap, map_take', map_drop', wrap_in, nth_nat, opt_if, dec_t, dec_f, e1, e3, e4, e5, e13, e16, e18, efo, g13, b13, k6, h10]
        exact nxt_of (i + 1, y.1) ⟨by show i + 1 ≤ _; omega, hy, by simp -implicitDefEqProofs (disch := first | omega | (simp -implicitDefEqProofs <;> omega) | (simp -implicitDefEqProofs [*] <;> omega) | fail) [-List.map_take, -List.map_drop, -List.length_flatMap, map_take', map_drop', wrap_in, nth_nat, opt_if, dec_t, dec_f, e1], by simp -implicitDefEqProofs (disch := first | omega | (simp -implicitDefEqProofs <;> omega) | (simp -implicitDefEqProofs [*] <;> omega) | fail) [-List.map_take, -List.map_drop, -List.length_flatMap, map_take', map_drop', wrap_in, nth_nat, opt_if, dec_t, dec_f, e3], by simp -implicitDefEqProofs (disch := first | omega | (simp -implicitDefEqProofs <;> omega) | (simp -implicitDefEqProofs [*] <;> omega) | fail) [-List.map_take, -List.map_drop, -List.length_flatMap, map_take', map_drop', wrap_in, nth_nat, opt_if, dec_t, dec_f, e4], by simp -implicitDefEqProofs (disch := first | omega | (simp -implicitDefEqProofs <;> omega) | (simp -implicitDefEqProofs [*] <;> omega) | fail) [-List.map_take, -List.map_drop, -List.length_flatMap, map_take', map_drop', wrap_in, nth_nat, opt_if, dec_t, dec_f, e5], by simp -implicitDefEqProofs (disch := first | omega | (simp -implicitDefEqProofs <;> omega) | (simp -implicitDefEqProofs [*] <;> omega) | fail) [-List.map_take, -List.map_drop, -List.length_flatMap, map_take', map_drop', wrap_in, nth_nat, opt_if, dec_t, dec_f, e13], by simp -implicitDefEqProofs (disch := first | omega | (simp -implicitDefEqProofs <;> omega) | (simp -implicitDefEqProofs [*] <;> omega) | fail) [-List.map_take, -List.map_drop, -List.length_flatMap, map_take', map_drop', wrap_in, nth_nat, opt_if, dec_t, dec_f, e16], by simp, by simp -implicitDefEqProofs (disch := first | omega | (simp -implicitDefEqProofs <;> omega) | (simp -implicitDefEqProofs [*] <;> omega) | fail) [-List.map_take, -List.map_drop, -List.length_flatMap, map_take', map_drop', wrap_in, nth_nat, opt_if, dec_t, dec_f, efo], by simp -implicitDefEqProofs (disch := first | omega | (simp -implicitDefEqProofs <;> omega) | (simp -implicitDefEqProofs [*] <;> omega) | fail) [-List.map_take, -List.map_drop, -List.length_flatMap, map_take', map_drop', wrap_in, nth_nat, opt_if, dec_t, dec_f, g13, efo], by simp -implicitDefEqProofs (disch := first | omega | (simp -implicitDefEqProofs <;> omega) | (simp -implicitDefEqProofs [*] <;> omega) | fail) [-List.map_take, -List.map_drop, -List.length_flatMap, map_take', map_drop', wrap_in, nth_nat, opt_if, dec_t, dec_f, b13, efo]⟩ (by show l.length - (i + 1) < l.length - i; omega)
    · have q5 := diskCrash x okx keep (by omega) dir
      have okc := ok_right (crash_right x keep dir)
      obtain ⟨now, hnow, hle, htk⟩ := lasts_3 hx keep dir
      generalize crashS x keep dir = c at *
      have q6 := diskGet c okc name
      rw [hnow] at q6
      have hle2 : (was.length : Int) ≤ now.length := by omega
      have hle3 : was.length ≤ now.length := hle
      by_cases hil : (i : Int) < l.length
      · have h10 : ¬ (i : Int) < 10 := by omega
        simp -implicitDefEqProofs (disch := first | omega | (simp -implicitDefEqProofs <;> omega) | (simp -implicitDefEqProofs [*] <;> omega) | fail) [-List.map_take, -List.map_drop, -List.length_flatMap, map_take', map_drop', wrap_in, nth_nat, opt_if, dec_t, dec_f, e1, e3, e4, e5, e13, e16, e18, efo, g13, b13, hil, h10]
        refine o_call rfl rfl q5 rfl rfl ?_
        simp -implicitDefEqProofs (disch := first | omega | (simp -implicitDefEqProofs <;> omega) | (simp -implicitDefEqProofs [*] <;> omega) | fail) [-List.map_take, -List.map_drop, -List.length_flatMap, map_take', map_drop', wrap_in, nth_nat, opt_if, dec_t, dec_f, e1, e3, e4, e5, e13, e16, e18, efo, g13, b13, hil, h10]
        refine o_call rfl rfl q6 rfl rfl ?_
        simp -implicitDefEqProofs (disch := first | omega | (simp -implicitDefEqProofs <;> omega) | (simp -implicitDefEqProofs [*] <;> omega) | fail) [-List.map_take, -List.map_drop, -List.length_flatMap, map_take', map_drop', wrap_in, nth_nat, opt_if, dec_t, dec_f, e1, e3, e4, e5, e13, e16, e18, efo, g13, b13, hil, h10, hle2, htk]
        refine o_call rfl rfl knows rfl rfl ?_
        simp -implicitDefEqProofs (disch := first | omega | (simp -implicitDefEqProofs <;> omega) | (simp -implicitDefEqProofs [*] <;> omega) | fail) [-List.map_take, -List.map_drop, -List.length_flatMap, map_take', map_drop', wrap_in, nth_nat, opt_if, dec_t, dec_f]
      · simp -implicitDefEqProofs (disch := first | omega | (simp -implicitDefEqProofs <;> omega) | (simp -implicitDefEqProofs [*] <;> omega) | fail) [-List.map_take, -List.map_drop, -List.length_flatMap, map_take', map_drop', wrap_in, nth_nat, opt_if, dec_t, dec_f, e1, e3, e4, e5, e13, e16, e18, efo, g13, b13, hil]
        refine o_call rfl rfl q5 rfl rfl ?_
        simp -implicitDefEqProofs (disch := first | omega | (simp -implicitDefEqProofs <;> omega) | (simp -implicitDefEqProofs [*] <;> omega) | fail) [-List.map_take, -List.map_drop, -List.length_flatMap, map_take', map_drop', wrap_in, nth_nat, opt_if, dec_t, dec_f, e1, e3, e4, e5, e13, e16, e18, efo, g13, b13, hil]
        refine o_call rfl rfl q6 rfl rfl ?_
        simp -implicitDefEqProofs (disch := first | omega | (simp -implicitDefEqProofs <;> omega) | (simp -implicitDefEqProofs [*] <;> omega) | fail) [-List.map_take, -List.map_drop, -List.length_flatMap, map_take', map_drop', wrap_in, nth_nat, opt_if, dec_t, dec_f, e1, e3, e4, e5, e13, e16, e18, efo, g13, b13, hil, hle2, htk]
        refine o_call rfl rfl knows rfl rfl ?_
        simp -implicitDefEqProofs (disch := first | omega | (simp -implicitDefEqProofs <;> omega) | (simp -implicitDefEqProofs [*] <;> omega) | fail) [-List.map_take, -List.map_drop, -List.length_flatMap, map_take', map_drop', wrap_in, nth_nat, opt_if, dec_t, dec_f]
  · simp -implicitDefEqProofs (disch := first | omega | (simp -implicitDefEqProofs <;> omega) | (simp -implicitDefEqProofs [*] <;> omega) | fail) [-List.map_take, -List.map_drop, -List.length_flatMap, map_take', map_drop', wrap_in, nth_nat, opt_if, dec_t, dec_f]
    refine o_call rfl rfl g1 rfl rfl ?_
    simp -implicitDefEqProofs (disch := first | omega | (simp -implicitDefEqProofs <;> omega) | (simp -implicitDefEqProofs [*] <;> omega) | fail) [-List.map_take, -List.map_drop, -List.length_flatMap, map_take', map_drop', wrap_in, nth_nat, opt_if, dec_t, dec_f, c1, c2, c3]
    refine o_call rfl rfl q1 rfl rfl ?_
    simp -implicitDefEqProofs (disch := first | omega | (simp -implicitDefEqProofs <;> omega) | (simp -implicitDefEqProofs [*] <;> omega) | fail) [-List.map_take, -List.map_drop, -List.length_flatMap, map_take', map_drop', wrap_in, nth_nat, opt_if, dec_t, dec_f, he]
    refine o_call rfl rfl knows rfl rfl ?_
    simp -implicitDefEqProofs (disch := first | omega | (simp -implicitDefEqProofs <;> omega) | (simp -implicitDefEqProofs [*] <;> omega) | fail) [-List.map_take, -List.map_drop, -List.length_flatMap, map_take', map_drop', wrap_in, nth_nat, opt_if, dec_t, dec_f]

theorem lawRenames (a b : List UInt8) (keep : List Int) (dir : Bool) : Holds Try.prog 5 [.d (.slice (a.map byteD)), .d (.slice (b.map byteD)), .d (.slice (keep.map intD)), .d (.bool dir)] (.d (.bool true)) (fun _ => false) := by
  refine Holds.by (by kernel_rfl) Try.func5 (by kernel_rfl) rfl [] (by simp) (by kernel_rfl) (by kernel_rfl) rfl ?_
  conv in ccs _ => cbv
  by_cases c1 : (10000 : Int) < a.length
  · simp -implicitDefEqProofs (disch := first | omega | (simp -implicitDefEqProofs <;> omega) | (simp -implicitDefEqProofs [*] <;> omega) | fail) [-List.map_take, -List.map_drop, -List.length_flatMap, map_take', map_drop', wrap_in, nth_nat, opt_if, dec_t, dec_f, c1]
    refine o_call rfl rfl knows rfl rfl ?_
    simp -implicitDefEqProofs (disch := first | omega | (simp -implicitDefEqProofs <;> omega) | (simp -implicitDefEqProofs [*] <;> omega) | fail) [-List.map_take, -List.map_drop, -List.length_flatMap, map_take', map_drop', wrap_in, nth_nat, opt_if, dec_t, dec_f]
  by_cases c2 : (10000 : Int) < b.length
  · simp -implicitDefEqProofs (disch := first | omega | (simp -implicitDefEqProofs <;> omega) | (simp -implicitDefEqProofs [*] <;> omega) | fail) [-List.map_take, -List.map_drop, -List.length_flatMap, map_take', map_drop', wrap_in, nth_nat, opt_if, dec_t, dec_f, c1, c2]
    refine o_call rfl rfl knows rfl rfl ?_
    simp -implicitDefEqProofs (disch := first | omega | (simp -implicitDefEqProofs <;> omega) | (simp -implicitDefEqProofs [*] <;> omega) | fail) [-List.map_take, -List.map_drop, -List.length_flatMap, map_take', map_drop', wrap_in, nth_nat, opt_if, dec_t, dec_f]
  by_cases c3 : (100 : Int) < keep.length
  · simp -implicitDefEqProofs (disch := first | omega | (simp -implicitDefEqProofs <;> omega) | (simp -implicitDefEqProofs [*] <;> omega) | fail) [-List.map_take, -List.map_drop, -List.length_flatMap, map_take', map_drop', wrap_in, nth_nat, opt_if, dec_t, dec_f, c1, c2, c3]
    refine o_call rfl rfl knows rfl rfl ?_
    simp -implicitDefEqProofs (disch := first | omega | (simp -implicitDefEqProofs <;> omega) | (simp -implicitDefEqProofs [*] <;> omega) | fail) [-List.map_take, -List.map_drop, -List.length_flatMap, map_take', map_drop', wrap_in, nth_nat, opt_if, dec_t, dec_f]
  have ha : a.length ≤ 10000 := by omega
  have hb : b.length ≤ 10000 := by omega
  have hkp : keep.length ≤ 1000000 := by omega
  obtain ⟨r1, r2, r3, r4, r5, r6⟩ := rn_right a b ha hb
  have r7 := (rn_right b b hb hb).2.2.1
  have q1 := diskAppend dk0 ok0 nJ a (by simp) (by omega)
  rw [rnA a ha] at q1
  have q2 := diskSync (rn1 a) (ok_right r1) nJ
  rw [rnB a r1] at q2
  have q3 := diskSyncDir (rn2 a) (ok_right r2)
  rw [rnC a r2] at q3
  have q4 := diskAppend (rn3 a) (ok_right r3) nK b (by simp) (by omega)
  rw [rnD a b r3 hb] at q4
  have q5 := diskSync (rn4 a b) (ok_right r4) nK
  rw [rnE a b r4] at q5
  have q6 := diskRename (rn5 a b) (ok_right r5) nK nJ (by simp)
  rw [rnF a b r5] at q6
  have q7 := diskCrash (rn6 a b) (ok_right r6) keep hkp dir
  have q8 := diskGet (crashS (rn6 a b) keep dir) (ok_right (crash_right _ _ _)) nJ
  rw [rn_crash a b ha hb] at q8
  have q9 := diskSyncDir (rn6 a b) (ok_right r6)
  rw [rnG a b r6] at q9
  have q10 := diskCrash (rn3 b) (ok_right r7) keep hkp dir
  have q11 := diskGet (crashS (rn3 b) keep dir) (ok_right (crash_right _ _ _)) nJ
  rw [rn_crash2 a b ha hb] at q11
  have q12 := diskNames (rn6 a b) (ok_right r6)
  have hng : (goodK (rn6 a b)).now.map (fun e => DV.str e.name) = [.str nJ] := by
    rw [good_id r6]
    rfl
  rw [hng] at q12
  generalize crashS (rn6 a b) keep dir = x at *
  generalize crashS (rn3 b) keep dir = y at *
  have ed : dk0.d = .agg [.slice [], .slice [], .slice []] := rfl
  rw [ed] at q1
  clear ed hng r1 r2 r3 r4 r5 r6 r7
  dsimp only at q1 q2 q3 q4 q5 q6 q7 q8 q9 q10 q11 q12
  generalize rn1 a = d1 at *
  generalize rn2 a = d2 at *
  generalize rn3 a = d3 at *
  generalize rn4 a b = d4 at *
  generalize rn5 a b = d5 at *
  generalize rn6 a b = d6 at *
  generalize rn3 b = d7 at *
  simp -implicitDefEqProofs (disch := first | omega | (simp -implicitDefEqProofs <;> omega) | (simp -implicitDefEqProofs [*] <;> omega) | fail) [-List.map_take, -List.map_drop, -List.length_flatMap, map_take', map_drop', wrap_in, nth_nat, opt_if, dec_t, dec_f, c1, c2, c3]
  refine o_call rfl rfl q1 rfl rfl ?_
  simp -implicitDefEqProofs (disch := first | omega | (simp -implicitDefEqProofs <;> omega) | (simp -implicitDefEqProofs [*] <;> omega) | fail) [-List.map_take, -List.map_drop, -List.length_flatMap, map_take', map_drop', wrap_in, nth_nat, opt_if, dec_t, dec_f]
  refine o_call rfl rfl q2 rfl rfl ?_
  simp -implicitDefEqProofs (disch := first | omega | (simp -implicitDefEqProofs <;> omega) | (simp -implicitDefEqProofs [*] <;> omega) | fail) [-List.map_take, -List.map_drop, -List.length_flatMap, map_take', map_drop', wrap_in, nth_nat, opt_if, dec_t, dec_f]
  refine o_call rfl rfl q3 rfl rfl ?_
  simp -implicitDefEqProofs (disch := first | omega | (simp -implicitDefEqProofs <;> omega) | (simp -implicitDefEqProofs [*] <;> omega) | fail) [-List.map_take, -List.map_drop, -List.length_flatMap, map_take', map_drop', wrap_in, nth_nat, opt_if, dec_t, dec_f]
  refine o_call rfl rfl q4 rfl rfl ?_
  simp -implicitDefEqProofs (disch := first | omega | (simp -implicitDefEqProofs <;> omega) | (simp -implicitDefEqProofs [*] <;> omega) | fail) [-List.map_take, -List.map_drop, -List.length_flatMap, map_take', map_drop', wrap_in, nth_nat, opt_if, dec_t, dec_f]
  refine o_call rfl rfl q5 rfl rfl ?_
  simp -implicitDefEqProofs (disch := first | omega | (simp -implicitDefEqProofs <;> omega) | (simp -implicitDefEqProofs [*] <;> omega) | fail) [-List.map_take, -List.map_drop, -List.length_flatMap, map_take', map_drop', wrap_in, nth_nat, opt_if, dec_t, dec_f]
  refine o_call rfl rfl q6 rfl rfl ?_
  simp -implicitDefEqProofs (disch := first | omega | (simp -implicitDefEqProofs <;> omega) | (simp -implicitDefEqProofs [*] <;> omega) | fail) [-List.map_take, -List.map_drop, -List.length_flatMap, map_take', map_drop', wrap_in, nth_nat, opt_if, dec_t, dec_f]
  refine o_call rfl rfl q7 rfl rfl ?_
  simp -implicitDefEqProofs (disch := first | omega | (simp -implicitDefEqProofs <;> omega) | (simp -implicitDefEqProofs [*] <;> omega) | fail) [-List.map_take, -List.map_drop, -List.length_flatMap, map_take', map_drop', wrap_in, nth_nat, opt_if, dec_t, dec_f]
  refine o_call rfl rfl q8 rfl rfl ?_
  simp -implicitDefEqProofs (disch := first | omega | (simp -implicitDefEqProofs <;> omega) | (simp -implicitDefEqProofs [*] <;> omega) | fail) [-List.map_take, -List.map_drop, -List.length_flatMap, map_take', map_drop', wrap_in, nth_nat, opt_if, dec_t, dec_f]
  refine o_call rfl rfl q9 rfl rfl ?_
  simp -implicitDefEqProofs (disch := first | omega | (simp -implicitDefEqProofs <;> omega) | (simp -implicitDefEqProofs [*] <;> omega) | fail) [-List.map_take, -List.map_drop, -List.length_flatMap, map_take', map_drop', wrap_in, nth_nat, opt_if, dec_t, dec_f]
  refine o_call rfl rfl q10 rfl rfl ?_
  simp -implicitDefEqProofs (disch := first | omega | (simp -implicitDefEqProofs <;> omega) | (simp -implicitDefEqProofs [*] <;> omega) | fail) [-List.map_take, -List.map_drop, -List.length_flatMap, map_take', map_drop', wrap_in, nth_nat, opt_if, dec_t, dec_f]
  refine o_call rfl rfl q11 rfl rfl ?_
  cases dir with
  | true =>
    simp -implicitDefEqProofs (disch := first | omega | (simp -implicitDefEqProofs <;> omega) | (simp -implicitDefEqProofs [*] <;> omega) | fail) [-List.map_take, -List.map_drop, -List.length_flatMap, map_take', map_drop', wrap_in, nth_nat, opt_if, dec_t, dec_f]
    refine o_call rfl rfl q12 rfl rfl ?_
    simp -implicitDefEqProofs (disch := first | omega | (simp -implicitDefEqProofs <;> omega) | (simp -implicitDefEqProofs [*] <;> omega) | fail) [-List.map_take, -List.map_drop, -List.length_flatMap, map_take', map_drop', wrap_in, nth_nat, opt_if, dec_t, dec_f]
    refine o_call rfl rfl knows rfl rfl ?_
    simp -implicitDefEqProofs (disch := first | omega | (simp -implicitDefEqProofs <;> omega) | (simp -implicitDefEqProofs [*] <;> omega) | fail) [-List.map_take, -List.map_drop, -List.length_flatMap, map_take', map_drop', wrap_in, nth_nat, opt_if, dec_t, dec_f]
  | false =>
    simp -implicitDefEqProofs (disch := first | omega | (simp -implicitDefEqProofs <;> omega) | (simp -implicitDefEqProofs [*] <;> omega) | fail) [-List.map_take, -List.map_drop, -List.length_flatMap, map_take', map_drop', wrap_in, nth_nat, opt_if, dec_t, dec_f]
    refine o_call rfl rfl q12 rfl rfl ?_
    simp -implicitDefEqProofs (disch := first | omega | (simp -implicitDefEqProofs <;> omega) | (simp -implicitDefEqProofs [*] <;> omega) | fail) [-List.map_take, -List.map_drop, -List.length_flatMap, map_take', map_drop', wrap_in, nth_nat, opt_if, dec_t, dec_f]
    refine o_call rfl rfl knows rfl rfl ?_
    simp -implicitDefEqProofs (disch := first | omega | (simp -implicitDefEqProofs <;> omega) | (simp -implicitDefEqProofs [*] <;> omega) | fail) [-List.map_take, -List.map_drop, -List.length_flatMap, map_take', map_drop', wrap_in, nth_nat, opt_if, dec_t, dec_f]

theorem lawCuts (k : Dk) (name : List UInt8) (n : Int) (b : List UInt8) (hk : DkOk k) (hn : name.length ≤ 9223372036854775807) : Holds Try.prog 6 [.d k.d, .d (.str name), .d (.int .i64 n), .d (.slice (b.map byteD))] (.d (.bool true)) (fun _ => false) := by
  refine Holds.by (by kernel_rfl) Try.func6 (by kernel_rfl) rfl [20004, 50043, 50080, 3103015, 3019019] (by simp) (by kernel_rfl) (by kernel_rfl) rfl ?_
  conv in ccs _ => cbv
  have g1 := great08 k hk
  cases h1 : smallK k with
  | false =>
    rw [h1] at g1
    simp -implicitDefEqProofs (disch := first | omega | (simp -implicitDefEqProofs <;> omega) | (simp -implicitDefEqProofs [*] <;> omega) | fail) [-List.map_take, -List.map_drop, -List.length_flatMap, map_take', map_drop', wrap_in, nth_nat, opt_if, dec_t, dec_f]
    refine o_call rfl rfl g1 rfl rfl ?_
    simp -implicitDefEqProofs (disch := first | omega | (simp -implicitDefEqProofs <;> omega) | (simp -implicitDefEqProofs [*] <;> omega) | fail) [-List.map_take, -List.map_drop, -List.length_flatMap, map_take', map_drop', wrap_in, nth_nat, opt_if, dec_t, dec_f]
    refine o_call rfl rfl knows rfl rfl ?_
    simp -implicitDefEqProofs (disch := first | omega | (simp -implicitDefEqProofs <;> omega) | (simp -implicitDefEqProofs [*] <;> omega) | fail) [-List.map_take, -List.map_drop, -List.length_flatMap, map_take', map_drop', wrap_in, nth_nat, opt_if, dec_t, dec_f]
  | true =>
  rw [h1] at g1
  by_cases c1 : (100 : Int) < name.length
  · simp -implicitDefEqProofs (disch := first | omega | (simp -implicitDefEqProofs <;> omega) | (simp -implicitDefEqProofs [*] <;> omega) | fail) [-List.map_take, -List.map_drop, -List.length_flatMap, map_take', map_drop', wrap_in, nth_nat, opt_if, dec_t, dec_f]
    refine o_call rfl rfl g1 rfl rfl ?_
    simp -implicitDefEqProofs (disch := first | omega | (simp -implicitDefEqProofs <;> omega) | (simp -implicitDefEqProofs [*] <;> omega) | fail) [-List.map_take, -List.map_drop, -List.length_flatMap, map_take', map_drop', wrap_in, nth_nat, opt_if, dec_t, dec_f, c1]
    refine o_call rfl rfl knows rfl rfl ?_
    simp -implicitDefEqProofs (disch := first | omega | (simp -implicitDefEqProofs <;> omega) | (simp -implicitDefEqProofs [*] <;> omega) | fail) [-List.map_take, -List.map_drop, -List.length_flatMap, map_take', map_drop', wrap_in, nth_nat, opt_if, dec_t, dec_f]
  by_cases c2 : (10000 : Int) < b.length
  · simp -implicitDefEqProofs (disch := first | omega | (simp -implicitDefEqProofs <;> omega) | (simp -implicitDefEqProofs [*] <;> omega) | fail) [-List.map_take, -List.map_drop, -List.length_flatMap, map_take', map_drop', wrap_in, nth_nat, opt_if, dec_t, dec_f]
    refine o_call rfl rfl g1 rfl rfl ?_
    simp -implicitDefEqProofs (disch := first | omega | (simp -implicitDefEqProofs <;> omega) | (simp -implicitDefEqProofs [*] <;> omega) | fail) [-List.map_take, -List.map_drop, -List.length_flatMap, map_take', map_drop', wrap_in, nth_nat, opt_if, dec_t, dec_f, c1, c2]
    refine o_call rfl rfl knows rfl rfl ?_
    simp -implicitDefEqProofs (disch := first | omega | (simp -implicitDefEqProofs <;> omega) | (simp -implicitDefEqProofs [*] <;> omega) | fail) [-List.map_take, -List.map_drop, -List.length_flatMap, map_take', map_drop', wrap_in, nth_nat, opt_if, dec_t, dec_f]
  have ok := small_ok h1 hk
  have q1 := diskGet k ok name
  have q2 := diskCut k ok name n
  have q3 := diskRemove k ok name
  have f1 := cuts_1 k name n
  have f2 := cuts_2 k name n
  have f3 := cuts_3 k name
  have f4 := cuts_4 k name b
  have hx := cut_right k name n
  have hy := remove_right k name
  generalize getS k name = g at *
  generalize cutS k name n = x at *
  generalize removeS k name = y at *
  have q4 := diskCrash x.1 (ok_right hx) [] (by simp) true
  have q5 := diskGet (crashS x.1 [] true) (ok_right (crash_right _ _ _)) name
  have q6 := diskGet y.1 (ok_right hy) name
  have q7 := diskAppend y.1 (ok_right hy) name b hn (by omega)
  have q8 := diskGet (appendS y.1 name b).1 (ok_right (append_right _ _ _)) name
  generalize appendS y.1 name b = z at *
  generalize crashS x.1 [] true = c at *
  clear ok h1 hk hx hy
  obtain ⟨gb, ge⟩ := g
  dsimp only at q1 f1
  rw [List.map_nil] at q4
  have tail : ∀ S : PS, True := fun _ => trivial
  by_cases he : x.2 = 0
  · obtain ⟨w1, w2, w3⟩ := f1 he
    rw [w3] at q5
    obtain ⟨m, rfl⟩ := Int.eq_ofNat_of_zero_le w1
    have w4 : ¬ (gb.length : Int) < m := by omega
    have w5 : m ≤ gb.length := by omega
    rw [Int.toNat_natCast] at q5
    by_cases hg : y.2 = 0
    · have f3 := f3 hg
      rw [f3] at q6
      by_cases hz : z.2 = 0
      · have f4 := f4 hg hz
        simp -implicitDefEqProofs (disch := first | omega | (simp -implicitDefEqProofs <;> omega) | (simp -implicitDefEqProofs [*] <;> omega) | fail) [-List.map_take, -List.map_drop, -List.length_flatMap, map_take', map_drop', wrap_in, nth_nat, opt_if, dec_t, dec_f]
        refine o_call rfl rfl g1 rfl rfl ?_
        simp -implicitDefEqProofs (disch := first | omega | (simp -implicitDefEqProofs <;> omega) | (simp -implicitDefEqProofs [*] <;> omega) | fail) [-List.map_take, -List.map_drop, -List.length_flatMap, map_take', map_drop', wrap_in, nth_nat, opt_if, dec_t, dec_f, c1, c2]
        refine o_call rfl rfl q1 rfl rfl ?_
        simp -implicitDefEqProofs (disch := first | omega | (simp -implicitDefEqProofs <;> omega) | (simp -implicitDefEqProofs [*] <;> omega) | fail) [-List.map_take, -List.map_drop, -List.length_flatMap, map_take', map_drop', wrap_in, nth_nat, opt_if, dec_t, dec_f]
        refine o_call rfl rfl q2 rfl rfl ?_
        simp -implicitDefEqProofs (disch := first | omega | (simp -implicitDefEqProofs <;> omega) | (simp -implicitDefEqProofs [*] <;> omega) | fail) [-List.map_take, -List.map_drop, -List.length_flatMap, map_take', map_drop', wrap_in, nth_nat, opt_if, dec_t, dec_f, he]
        refine o_call rfl rfl q4 rfl rfl ?_
        simp -implicitDefEqProofs (disch := first | omega | (simp -implicitDefEqProofs <;> omega) | (simp -implicitDefEqProofs [*] <;> omega) | fail) [-List.map_take, -List.map_drop, -List.length_flatMap, map_take', map_drop', wrap_in, nth_nat, opt_if, dec_t, dec_f]
        refine o_call rfl rfl q5 rfl rfl ?_
        simp -implicitDefEqProofs (disch := first | omega | (simp -implicitDefEqProofs <;> omega) | (simp -implicitDefEqProofs [*] <;> omega) | fail) [-List.map_take, -List.map_drop, -List.length_flatMap, map_take', map_drop', wrap_in, nth_nat, opt_if, dec_t, dec_f, w4, w5]
        refine o_call rfl rfl q3 rfl rfl ?_
        simp -implicitDefEqProofs (disch := first | omega | (simp -implicitDefEqProofs <;> omega) | (simp -implicitDefEqProofs [*] <;> omega) | fail) [-List.map_take, -List.map_drop, -List.length_flatMap, map_take', map_drop', wrap_in, nth_nat, opt_if, dec_t, dec_f, hg]
        refine o_call rfl rfl q6 rfl rfl ?_
        simp -implicitDefEqProofs (disch := first | omega | (simp -implicitDefEqProofs <;> omega) | (simp -implicitDefEqProofs [*] <;> omega) | fail) [-List.map_take, -List.map_drop, -List.length_flatMap, map_take', map_drop', wrap_in, nth_nat, opt_if, dec_t, dec_f]
        refine o_call rfl rfl q7 rfl rfl ?_
        simp -implicitDefEqProofs (disch := first | omega | (simp -implicitDefEqProofs <;> omega) | (simp -implicitDefEqProofs [*] <;> omega) | fail) [-List.map_take, -List.map_drop, -List.length_flatMap, map_take', map_drop', wrap_in, nth_nat, opt_if, dec_t, dec_f]
        refine o_call rfl rfl q8 rfl rfl ?_
        simp -implicitDefEqProofs (disch := first | omega | (simp -implicitDefEqProofs <;> omega) | (simp -implicitDefEqProofs [*] <;> omega) | fail) [-List.map_take, -List.map_drop, -List.length_flatMap, map_take', map_drop', wrap_in, nth_nat, opt_if, dec_t, dec_f, hz, f4]
        refine o_call rfl rfl knows rfl rfl ?_
        simp -implicitDefEqProofs (disch := first | omega | (simp -implicitDefEqProofs <;> omega) | (simp -implicitDefEqProofs [*] <;> omega) | fail) [-List.map_take, -List.map_drop, -List.length_flatMap, map_take', map_drop', wrap_in, nth_nat, opt_if, dec_t, dec_f]
      · simp -implicitDefEqProofs (disch := first | omega | (simp -implicitDefEqProofs <;> omega) | (simp -implicitDefEqProofs [*] <;> omega) | fail) [-List.map_take, -List.map_drop, -List.length_flatMap, map_take', map_drop', wrap_in, nth_nat, opt_if, dec_t, dec_f]
        refine o_call rfl rfl g1 rfl rfl ?_
        simp -implicitDefEqProofs (disch := first | omega | (simp -implicitDefEqProofs <;> omega) | (simp -implicitDefEqProofs [*] <;> omega) | fail) [-List.map_take, -List.map_drop, -List.length_flatMap, map_take', map_drop', wrap_in, nth_nat, opt_if, dec_t, dec_f, c1, c2]
        refine o_call rfl rfl q1 rfl rfl ?_
        simp -implicitDefEqProofs (disch := first | omega | (simp -implicitDefEqProofs <;> omega) | (simp -implicitDefEqProofs [*] <;> omega) | fail) [-List.map_take, -List.map_drop, -List.length_flatMap, map_take', map_drop', wrap_in, nth_nat, opt_if, dec_t, dec_f]
        refine o_call rfl rfl q2 rfl rfl ?_
        simp -implicitDefEqProofs (disch := first | omega | (simp -implicitDefEqProofs <;> omega) | (simp -implicitDefEqProofs [*] <;> omega) | fail) [-List.map_take, -List.map_drop, -List.length_flatMap, map_take', map_drop', wrap_in, nth_nat, opt_if, dec_t, dec_f, he]
        refine o_call rfl rfl q4 rfl rfl ?_
        simp -implicitDefEqProofs (disch := first | omega | (simp -implicitDefEqProofs <;> omega) | (simp -implicitDefEqProofs [*] <;> omega) | fail) [-List.map_take, -List.map_drop, -List.length_flatMap, map_take', map_drop', wrap_in, nth_nat, opt_if, dec_t, dec_f]
        refine o_call rfl rfl q5 rfl rfl ?_
        simp -implicitDefEqProofs (disch := first | omega | (simp -implicitDefEqProofs <;> omega) | (simp -implicitDefEqProofs [*] <;> omega) | fail) [-List.map_take, -List.map_drop, -List.length_flatMap, map_take', map_drop', wrap_in, nth_nat, opt_if, dec_t, dec_f, w4, w5]
        refine o_call rfl rfl q3 rfl rfl ?_
        simp -implicitDefEqProofs (disch := first | omega | (simp -implicitDefEqProofs <;> omega) | (simp -implicitDefEqProofs [*] <;> omega) | fail) [-List.map_take, -List.map_drop, -List.length_flatMap, map_take', map_drop', wrap_in, nth_nat, opt_if, dec_t, dec_f, hg]
        refine o_call rfl rfl q6 rfl rfl ?_
        simp -implicitDefEqProofs (disch := first | omega | (simp -implicitDefEqProofs <;> omega) | (simp -implicitDefEqProofs [*] <;> omega) | fail) [-List.map_take, -List.map_drop, -List.length_flatMap, map_take', map_drop', wrap_in, nth_nat, opt_if, dec_t, dec_f]
        refine o_call rfl rfl q7 rfl rfl ?_
        simp -implicitDefEqProofs (disch := first | omega | (simp -implicitDefEqProofs <;> omega) | (simp -implicitDefEqProofs [*] <;> omega) | fail) [-List.map_take, -List.map_drop, -List.length_flatMap, map_take', map_drop', wrap_in, nth_nat, opt_if, dec_t, dec_f]
        refine o_call rfl rfl q8 rfl rfl ?_
        simp -implicitDefEqProofs (disch := first | omega | (simp -implicitDefEqProofs <;> omega) | (simp -implicitDefEqProofs [*] <;> omega) | fail) [-List.map_take, -List.map_drop, -List.length_flatMap, map_take', map_drop', wrap_in, nth_nat, opt_if, dec_t, dec_f, hz]
        refine o_call rfl rfl knows rfl rfl ?_
        simp -implicitDefEqProofs (disch := first | omega | (simp -implicitDefEqProofs <;> omega) | (simp -implicitDefEqProofs [*] <;> omega) | fail) [-List.map_take, -List.map_drop, -List.length_flatMap, map_take', map_drop', wrap_in, nth_nat, opt_if, dec_t, dec_f]
    · exact absurd he (f2 hg).2
  · by_cases hg : y.2 = 0
    · have f3 := f3 hg
      rw [f3] at q6
      by_cases hz : z.2 = 0
      · have f4 := f4 hg hz
        simp -implicitDefEqProofs (disch := first | omega | (simp -implicitDefEqProofs <;> omega) | (simp -implicitDefEqProofs [*] <;> omega) | fail) [-List.map_take, -List.map_drop, -List.length_flatMap, map_take', map_drop', wrap_in, nth_nat, opt_if, dec_t, dec_f]
        refine o_call rfl rfl g1 rfl rfl ?_
        simp -implicitDefEqProofs (disch := first | omega | (simp -implicitDefEqProofs <;> omega) | (simp -implicitDefEqProofs [*] <;> omega) | fail) [-List.map_take, -List.map_drop, -List.length_flatMap, map_take', map_drop', wrap_in, nth_nat, opt_if, dec_t, dec_f, c1, c2]
        refine o_call rfl rfl q1 rfl rfl ?_
        simp -implicitDefEqProofs (disch := first | omega | (simp -implicitDefEqProofs <;> omega) | (simp -implicitDefEqProofs [*] <;> omega) | fail) [-List.map_take, -List.map_drop, -List.length_flatMap, map_take', map_drop', wrap_in, nth_nat, opt_if, dec_t, dec_f]
        refine o_call rfl rfl q2 rfl rfl ?_
        simp -implicitDefEqProofs (disch := first | omega | (simp -implicitDefEqProofs <;> omega) | (simp -implicitDefEqProofs [*] <;> omega) | fail) [-List.map_take, -List.map_drop, -List.length_flatMap, map_take', map_drop', wrap_in, nth_nat, opt_if, dec_t, dec_f, he]
        refine o_call rfl rfl q3 rfl rfl ?_
        simp -implicitDefEqProofs (disch := first | omega | (simp -implicitDefEqProofs <;> omega) | (simp -implicitDefEqProofs [*] <;> omega) | fail) [-List.map_take, -List.map_drop, -List.length_flatMap, map_take', map_drop', wrap_in, nth_nat, opt_if, dec_t, dec_f, hg]
        refine o_call rfl rfl q6 rfl rfl ?_
        simp -implicitDefEqProofs (disch := first | omega | (simp -implicitDefEqProofs <;> omega) | (simp -implicitDefEqProofs [*] <;> omega) | fail) [-List.map_take, -List.map_drop, -List.length_flatMap, map_take', map_drop', wrap_in, nth_nat, opt_if, dec_t, dec_f]
        refine o_call rfl rfl q7 rfl rfl ?_
        simp -implicitDefEqProofs (disch := first | omega | (simp -implicitDefEqProofs <;> omega) | (simp -implicitDefEqProofs [*] <;> omega) | fail) [-List.map_take, -List.map_drop, -List.length_flatMap, map_take', map_drop', wrap_in, nth_nat, opt_if, dec_t, dec_f]
        refine o_call rfl rfl q8 rfl rfl ?_
        simp -implicitDefEqProofs (disch := first | omega | (simp -implicitDefEqProofs <;> omega) | (simp -implicitDefEqProofs [*] <;> omega) | fail) [-List.map_take, -List.map_drop, -List.length_flatMap, map_take', map_drop', wrap_in, nth_nat, opt_if, dec_t, dec_f, hz, f4]
        refine o_call rfl rfl knows rfl rfl ?_
        simp -implicitDefEqProofs (disch := first | omega | (simp -implicitDefEqProofs <;> omega) | (simp -implicitDefEqProofs [*] <;> omega) | fail) [-List.map_take, -List.map_drop, -List.length_flatMap, map_take', map_drop', wrap_in, nth_nat, opt_if, dec_t, dec_f]
      · simp -implicitDefEqProofs (disch := first | omega | (simp -implicitDefEqProofs <;> omega) | (simp -implicitDefEqProofs [*] <;> omega) | fail) [-List.map_take, -List.map_drop, -List.length_flatMap, map_take', map_drop', wrap_in, nth_nat, opt_if, dec_t, dec_f]
        refine o_call rfl rfl g1 rfl rfl ?_
        simp -implicitDefEqProofs (disch := first | omega | (simp -implicitDefEqProofs <;> omega) | (simp -implicitDefEqProofs [*] <;> omega) | fail) [-List.map_take, -List.map_drop, -List.length_flatMap, map_take', map_drop', wrap_in, nth_nat, opt_if, dec_t, dec_f, c1, c2]
        refine o_call rfl rfl q1 rfl rfl ?_
        simp -implicitDefEqProofs (disch := first | omega | (simp -implicitDefEqProofs <;> omega) | (simp -implicitDefEqProofs [*] <;> omega) | fail) [-List.map_take, -List.map_drop, -List.length_flatMap, map_take', map_drop', wrap_in, nth_nat, opt_if, dec_t, dec_f]
        refine o_call rfl rfl q2 rfl rfl ?_
        simp -implicitDefEqProofs (disch := first | omega | (simp -implicitDefEqProofs <;> omega) | (simp -implicitDefEqProofs [*] <;> omega) | fail) [-List.map_take, -List.map_drop, -List.length_flatMap, map_take', map_drop', wrap_in, nth_nat, opt_if, dec_t, dec_f, he]
        refine o_call rfl rfl q3 rfl rfl ?_
        simp -implicitDefEqProofs (disch := first | omega | (simp -implicitDefEqProofs <;> omega) | (simp -implicitDefEqProofs [*] <;> omega) | fail) [-List.map_take, -List.map_drop, -List.length_flatMap, map_take', map_drop', wrap_in, nth_nat, opt_if, dec_t, dec_f, hg]
        refine o_call rfl rfl q6 rfl rfl ?_
        simp -implicitDefEqProofs (disch := first | omega | (simp -implicitDefEqProofs <;> omega) | (simp -implicitDefEqProofs [*] <;> omega) | fail) [-List.map_take, -List.map_drop, -List.length_flatMap, map_take', map_drop', wrap_in, nth_nat, opt_if, dec_t, dec_f]
        refine o_call rfl rfl q7 rfl rfl ?_
        simp -implicitDefEqProofs (disch := first | omega | (simp -implicitDefEqProofs <;> omega) | (simp -implicitDefEqProofs [*] <;> omega) | fail) [-List.map_take, -List.map_drop, -List.length_flatMap, map_take', map_drop', wrap_in, nth_nat, opt_if, dec_t, dec_f]
        refine o_call rfl rfl q8 rfl rfl ?_
        simp -implicitDefEqProofs (disch := first | omega | (simp -implicitDefEqProofs <;> omega) | (simp -implicitDefEqProofs [*] <;> omega) | fail) [-List.map_take, -List.map_drop, -List.length_flatMap, map_take', map_drop', wrap_in, nth_nat, opt_if, dec_t, dec_f, hz]
        refine o_call rfl rfl knows rfl rfl ?_
        simp -implicitDefEqProofs (disch := first | omega | (simp -implicitDefEqProofs <;> omega) | (simp -implicitDefEqProofs [*] <;> omega) | fail) [-List.map_take, -List.map_drop, -List.length_flatMap, map_take', map_drop', wrap_in, nth_nat, opt_if, dec_t, dec_f]
    · have f2 := (f2 hg).1
      have hg5 : y.2 = 5 := f2
      simp -implicitDefEqProofs (disch := first | omega | (simp -implicitDefEqProofs <;> omega) | (simp -implicitDefEqProofs [*] <;> omega) | fail) [-List.map_take, -List.map_drop, -List.length_flatMap, map_take', map_drop', wrap_in, nth_nat, opt_if, dec_t, dec_f]
      refine o_call rfl rfl g1 rfl rfl ?_
      simp -implicitDefEqProofs (disch := first | omega | (simp -implicitDefEqProofs <;> omega) | (simp -implicitDefEqProofs [*] <;> omega) | fail) [-List.map_take, -List.map_drop, -List.length_flatMap, map_take', map_drop', wrap_in, nth_nat, opt_if, dec_t, dec_f, c1, c2]
      refine o_call rfl rfl q1 rfl rfl ?_
      simp -implicitDefEqProofs (disch := first | omega | (simp -implicitDefEqProofs <;> omega) | (simp -implicitDefEqProofs [*] <;> omega) | fail) [-List.map_take, -List.map_drop, -List.length_flatMap, map_take', map_drop', wrap_in, nth_nat, opt_if, dec_t, dec_f]
      refine o_call rfl rfl q2 rfl rfl ?_
      simp -implicitDefEqProofs (disch := first | omega | (simp -implicitDefEqProofs <;> omega) | (simp -implicitDefEqProofs [*] <;> omega) | fail) [-List.map_take, -List.map_drop, -List.length_flatMap, map_take', map_drop', wrap_in, nth_nat, opt_if, dec_t, dec_f, he]
      refine o_call rfl rfl q3 rfl rfl ?_
      simp -implicitDefEqProofs (disch := first | omega | (simp -implicitDefEqProofs <;> omega) | (simp -implicitDefEqProofs [*] <;> omega) | fail) [-List.map_take, -List.map_drop, -List.length_flatMap, map_take', map_drop', wrap_in, nth_nat, opt_if, dec_t, dec_f, hg5, he]
      refine o_call rfl rfl knows rfl rfl ?_
      simp -implicitDefEqProofs (disch := first | omega | (simp -implicitDefEqProofs <;> omega) | (simp -implicitDefEqProofs [*] <;> omega) | fail) [-List.map_take, -List.map_drop, -List.length_flatMap, map_take', map_drop', wrap_in, nth_nat, opt_if, dec_t, dec_f]

end Go.Proofs.Ytoamihggbaaohaa
