/- The last leases and the changes: what the document and the program answer. -/
import Derived.Test.YtkbidfohcanijaaGreatClean
import Derived.Test.YtkbidfohcanijaaGreatCleanP
namespace Go.Proofs.YtkbidfohcanijaaGreat
open BoEng Go
set_option maxRecDepth 100000
attribute [-simp] List.map_take List.map_drop List.length_flatMap
set_option linter.unusedSimpArgs false
set_option linter.unusedVariables false

def bhI (ls : List LeaseR) (at_ : Nat) (a : Int) (i : Nat) (S : PS) : Prop :=
  at_ + 1 ≤ i ∧ (at_ + 1 ≤ ls.length → i ≤ ls.length) ∧ (∀ j (h : j < ls.length), at_ + 1 ≤ j → j < i → ls[j].addr ≠ a) ∧ S.t 0 = .d (.slice (ls.map LeaseR.d)) ∧ S.t 2 = .d (.int .i64 a) ∧ S.t 7 = .d (.int .i64 i)
theorem ref11Behind (ls : List LeaseR) (at_ : Nat) (a : Int) (hl : ls.length ≤ 1000000) (hat : at_ < ls.length) : Holds Tryz.prog 68 [.d (.slice (ls.map LeaseR.d)), .d (.int .i64 at_), .d (.int .i64 a)] (.d (.bool ((ls.drop (at_ + 1)).any fun b => decide (b.addr = a)))) (fun _ => false) := by
  refine Holds.by (by kernel_rfl) Tryz.func68 (by kernel_rfl) rfl [] (by simp) (by kernel_rfl) (by kernel_rfl) rfl ?_
  conv in ccs _ => cbv
  simp (config := sc) (disch := first | exact dd | fail) [std]
  refine lp (bhI ls at_ a) (fun i => ls.length - i) (at_ + 1) ⟨by omega, by omega, fun j h h1 h2 => by omega, by simp (config := sc) (disch := first | exact dd | fail) [std], by simp (config := sc) (disch := first | exact dd | fail) [std], by simp (config := sc) (disch := first | exact dd | fail) [std]⟩ ?_
  rintro i S ⟨hi, hi2, hn, e0, e2, e7⟩
  by_cases hlt : i < ls.length
  · have k6 : (i : Int) < ls.length := by omega
    by_cases hc : ls[i].addr = a
    · have hr : ((ls.drop (at_ + 1)).any fun b => decide (b.addr = a)) = true := by
        rw [List.any_eq_true]
        refine ⟨ls[i], List.mem_drop_iff_getElem.2 ⟨i - (at_ + 1), by omega, ?_⟩, by simpa using hc⟩
        congr 1
        omega
      simp (config := sc) (disch := first | exact dd | fail) [std, e0, e2, e7, k6, hc, hr]
    · simp (config := sc) (disch := first | exact dd | fail) [std, e0, e2, e7, k6, hc]
      exact nxt_of (i + 1) ⟨by omega, by omega, fun j h h1 h2 => by
        by_cases e : j = i
        · subst e; exact hc
        · exact hn j h h1 (by omega), by simp (config := sc) (disch := first | exact dd | fail) [std, e0], by simp (config := sc) (disch := first | exact dd | fail) [std, e2], by simp (config := sc) (disch := first | exact dd | fail) [std]⟩ (by omega)
  · have k6 : ¬ (i : Int) < ls.length := by omega
    have hr : ((ls.drop (at_ + 1)).any fun b => decide (b.addr = a)) = false := by
      rw [List.any_eq_false]
      intro x hx
      obtain ⟨j, hj, rfl⟩ := List.mem_drop_iff_getElem.1 hx
      have := hn (at_ + 1 + j) (by omega) (by omega) (by omega)
      simpa using this
    simp (config := sc) (disch := first | exact dd | fail) [std, e0, e2, e7, k6, hr]

def rl1 (ls : List LeaseR) (q : Nat × List LeaseR) (S : PS) : Prop :=
  q.1 ≤ ls.length ∧ q.2 ++ leftL (ls.drop q.1) = leftL ls ∧ q.2.length ≤ q.1 ∧ S.t 0 = .d (.slice (ls.map LeaseR.d)) ∧ S.t 3 = .d (.slice (q.2.map LeaseR.d)) ∧ S.own (.t 3 0) = true ∧ S.t 4 = .d (.int .i64 q.1)
def rl2 (ls : List LeaseR) (q : Nat × List LeaseR × List LeaseR) (S : PS) : Prop :=
  selL q.1 q.2.1 q.2.2 = lastL ls ∧ q.2.1.length ≤ q.1 ∧ q.2.1.length + q.2.2.length ≤ 1000000 ∧ S.t 3 = .d (.slice (q.2.1.map LeaseR.d)) ∧ S.t 5 = .d (.slice (q.2.2.map LeaseR.d)) ∧ S.own (.t 5 0) = true
def rl3 (xs out : List LeaseR) (i : Nat) (S : PS) : Prop :=
  1 ≤ i ∧ i ≤ xs.length ∧ S.t 3 = .d (.slice (xs.map LeaseR.d)) ∧ S.t 5 = .d (.slice (out.map LeaseR.d)) ∧ S.own (.t 5 0) = true ∧ S.t 6 = .d (.int .i64 (bestL xs i)) ∧ S.t 7 = .d (.int .i64 i)
theorem leftL_step {ls : List LeaseR} {i : Nat} (h : i < ls.length) : leftL (ls.drop i) = (if (ls.drop (i + 1)).any (fun b => decide (b.addr = ls[i].addr)) = true then [] else [ls[i]]) ++ leftL (ls.drop (i + 1)) := by
  rw [List.drop_eq_getElem_cons h, leftL_cons]
  split <;> simp
theorem leftL_len : ∀ ls : List LeaseR, (leftL ls).length ≤ ls.length
  | [] => by simp [leftL]
  | a :: r => by
    have := leftL_len r
    rw [leftL_cons]
    split <;> simp <;> omega
theorem ref11Last (ls : List LeaseR) (hl : ls.length ≤ 100000) : Holds Tryz.prog 39 [.d (.slice (ls.map LeaseR.d))] (.d (.slice ((lastL ls).map LeaseR.d))) (fun _ => false) := by
  refine Holds.by (by kernel_rfl) Tryz.func39 (by kernel_rfl) rfl [23, 51] (by simp) (by kernel_rfl) (by kernel_rfl) rfl ?_
  conv in ccs _ => cbv
  simp (config := sc) (disch := first | exact dd | fail) [std]
  refine lp (rl1 ls) (fun q => ls.length - q.1) (0, []) ⟨by simp, by simp, by simp, by simp, by simp, by simp, by simp⟩ ?_
  rintro ⟨i, left⟩ S ⟨hi, hj, hll, e0, e3, o3, e4⟩
  dsimp only at hi hj hll e3 e4
  by_cases hlt : i < ls.length
  · have k6 : (i : Int) < ls.length := by omega
    have q := ref11Behind ls i ls[i].addr (by omega) hlt
    rw [leftL_step hlt] at hj
    have hn : nth ls (i : Int) = ls[i] := nth_nat hlt
    generalize ls[i] = a at *
    cases hb : (ls.drop (i + 1)).any fun b => decide (b.addr = a.addr) with
    | true =>
      rw [hb] at q hj
      rw [if_pos rfl, List.nil_append] at hj
      simp (config := sc) (disch := first | exact dd | fail) [std, e0, e3, o3, e4, k6, hn]
      refine o_call rfl rfl q rfl rfl ?_
      simp (config := sc) (disch := first | exact dd | fail) [std, e0, e3, o3, e4, k6, hn]
      exact nxt_of (i + 1, left) ⟨by show i + 1 ≤ ls.length; omega, hj, by show left.length ≤ i + 1; omega, by simp (config := sc) (disch := first | exact dd | fail) [std, e0], by simp (config := sc) (disch := first | exact dd | fail) [std, e3], by simp (config := sc) (disch := first | exact dd | fail) [std, o3], by simp (config := sc) (disch := first | exact dd | fail) [std]⟩ (by show ls.length - (i + 1) < ls.length - i; omega)
    | false =>
      rw [hb] at q hj
      rw [if_neg (by simp), ← List.append_assoc] at hj
      simp (config := sc) (disch := first | exact dd | fail) [std, e0, e3, o3, e4, k6, hn]
      refine o_call rfl rfl q rfl rfl ?_
      simp (config := sc) (disch := first | exact dd | fail) [std, e0, e3, o3, e4, k6, hn]
      exact nxt_of (i + 1, left ++ [a]) ⟨by show i + 1 ≤ ls.length; omega, hj, by simp; omega, by simp (config := sc) (disch := first | exact dd | fail) [std, e0], by simp (config := sc) (disch := first | exact dd | fail) [std, e3, LeaseR.d], by simp (config := sc) (disch := first | exact dd | fail) [std], by simp (config := sc) (disch := first | exact dd | fail) [std]⟩ (by show ls.length - (i + 1) < ls.length - i; omega)
  have k6 : ¬ (i : Int) < ls.length := by omega
  have hleft : left = leftL ls := by rw [List.drop_eq_nil_of_le (by omega)] at hj; simpa [leftL] using hj
  subst hleft
  simp (config := sc) (disch := first | exact dd | fail) [std, e0, e3, o3, e4, k6]
  refine lp (rl2 ls) (fun q => q.2.1.length) ((leftL ls).length, leftL ls, []) ⟨sel_last ls, by simp, by have := leftL_len ls; simp; omega, by simp (config := sc) (disch := first | exact dd | fail) [std, e3], by simp, by simp⟩ ?_
  clear hj hll e0 e3 o3 e4 k6 hlt hi i S
  rintro ⟨k, xs, out⟩ S ⟨hs, hk, hz, e3, e5, o5⟩
  dsimp only at hs hk hz e3 e5
  by_cases h0 : 0 < xs.length
  · have h0' : (0 : Int) < xs.length := by omega
    obtain ⟨k, rfl⟩ : ∃ m, k = m + 1 := ⟨k - 1, by omega⟩
    rw [selL, if_pos h0] at hs
    simp (config := sc) (disch := first | exact dd | fail) [std, e3, e5, o5, h0']
    refine lp (rl3 xs out) (fun i => xs.length - i) 1 ⟨by omega, by omega, by simp (config := sc) (disch := first | exact dd | fail) [std, e3], by simp (config := sc) (disch := first | exact dd | fail) [std, e5], by simp (config := sc) (disch := first | exact dd | fail) [std, o5], by simp [bestL], by simp⟩ ?_
    clear e3 e5 o5 S
    rintro i S ⟨hi1, hi, e3, e5, o5, e6, e7⟩
    by_cases hlt : i < xs.length
    · have k6 : (i : Int) < xs.length := by omega
      have hb := bestL_lt h0 i (by omega)
      have hn : nth xs (i : Int) = xs[i] := nth_nat hlt
      have hn2 : nth xs (bestL xs i : Int) = xs[bestL xs i] := nth_nat hb
      have hb' : (bestL xs i : Int) < xs.length := by omega
      by_cases hc : xs[i].addr < xs[bestL xs i].addr
      · have hbs : bestL xs (i + 1) = i := by
          rw [bestL, if_pos]
          rw [List.getD_eq_getElem?_getD, List.getElem?_eq_getElem hlt, Option.getD_some, List.getD_eq_getElem?_getD, List.getElem?_eq_getElem hb, Option.getD_some]
          exact hc
        simp (config := sc) (disch := first | exact dd | fail) [std, e3, e5, o5, e6, e7, k6, hn, hn2, hb', hc]
        exact nxt_of (i + 1) ⟨by omega, by omega, by simp (config := sc) (disch := first | exact dd | fail) [std, e3], by simp (config := sc) (disch := first | exact dd | fail) [std, e5], by simp (config := sc) (disch := first | exact dd | fail) [std, o5], by rw [hbs]; simp (config := sc) (disch := first | exact dd | fail) [std], by simp (config := sc) (disch := first | exact dd | fail) [std]⟩ (by omega)
      · have hbs : bestL xs (i + 1) = bestL xs i := by
          rw [bestL, if_neg]
          rw [List.getD_eq_getElem?_getD, List.getElem?_eq_getElem hlt, Option.getD_some, List.getD_eq_getElem?_getD, List.getElem?_eq_getElem hb, Option.getD_some]
          exact hc
        simp (config := sc) (disch := first | exact dd | fail) [std, e3, e5, o5, e6, e7, k6, hn, hn2, hb', hc]
        exact nxt_of (i + 1) ⟨by omega, by omega, by simp (config := sc) (disch := first | exact dd | fail) [std, e3], by simp (config := sc) (disch := first | exact dd | fail) [std, e5], by simp (config := sc) (disch := first | exact dd | fail) [std, o5], by rw [hbs]; simp (config := sc) (disch := first | exact dd | fail) [std, e6], by simp (config := sc) (disch := first | exact dd | fail) [std]⟩ (by omega)
    · have k6 : ¬ (i : Int) < xs.length := by omega
      have hil : i = xs.length := by omega
      subst hil
      have hb := bestL_lt h0 xs.length (by omega)
      generalize bestL xs xs.length = b at *
      have hg : xs.getD b default = xs[b] := by rw [List.getD_eq_getElem?_getD, List.getElem?_eq_getElem hb, Option.getD_some]
      rw [hg] at hs
      have hn : nth xs (b : Int) = xs[b] := nth_nat hb
      have hb' : (b : Int) < xs.length := by omega
      generalize xs[b] = x at *
      simp (config := sc) (disch := first | exact dd | fail) [std, e3, e5, o5, e6, e7, k6, hn, hb']
      exact nxt_of (k, xs.take b ++ xs.drop (b + 1), out ++ [x]) ⟨hs, by simp; omega, by simp; omega, by simp (config := sc) (disch := first | exact dd | fail) [std, e3], by simp (config := sc) (disch := first | exact dd | fail) [std, e5, LeaseR.d], by simp (config := sc) (disch := first | exact dd | fail) [std]⟩ (by simp; omega)
  · have h0' : ¬ (0 : Int) < xs.length := by omega
    have hx : xs = [] := List.eq_nil_of_length_eq_zero (by omega)
    subst hx
    have ho : out = lastL ls := by
      rw [← hs]
      cases k <;> rfl
    simp (config := sc) (disch := first | exact dd | fail) [std, e3, e5, o5, ho]

theorem all_app {ls : List LeaseR} {i : Nat} (h : i < ls.length) (ha : (ls.take i).all rightL = true) (hc : rightL ls[i] = true) : (ls.take (i + 1)).all rightL = true := by
  rw [List.take_succ_eq_append_getElem h, List.all_append, ha]
  simp [hc]
/-- The bytes as they are gathered: no more, once they are too many. -/
def gathL (ls : List LeaseR) : List UInt8 := ls.foldl (fun b l => if b.length ≤ 20000 then b ++ frameB (recB l) else b) []
theorem gathL_snoc (ls : List LeaseR) (l : LeaseR) : gathL (ls ++ [l]) = if (gathL ls).length ≤ 20000 then gathL ls ++ frameB (recB l) else gathL ls := by
  unfold gathL
  rw [List.foldl_append]
  rfl
theorem gathL_spec (ls : List LeaseR) : ((bytesL ls).length ≤ 20000 → gathL ls = bytesL ls) ∧ (20000 < (bytesL ls).length → 20000 < (gathL ls).length) := by
  induction ls using lastL_ind with
  | h0 => exact ⟨fun _ => rfl, fun h => by simp [bytesL] at h⟩
  | hs ls l ih =>
    rw [bytesL_snoc, gathL_snoc]
    by_cases h : (bytesL ls).length ≤ 20000
    · rw [ih.1 h, if_pos h]
      exact ⟨fun _ => rfl, fun h => h⟩
    · have := ih.2 (by omega)
      rw [if_neg (by omega)]
      refine ⟨fun h2 => ?_, fun _ => this⟩
      simp only [List.length_append] at h2
      omega
theorem gathL_few (ls : List LeaseR) (h : ∀ l ∈ ls, rightL l = true) : (gathL ls).length ≤ 20274 := by
  induction ls using lastL_ind with
  | h0 => simp [gathL]
  | hs ls l ih =>
    have ih := ih fun x hx => h x (by simp [hx])
    have := frame_few (h l (by simp))
    rw [gathL_snoc]
    split
    · simp; omega
    · exact ih
def ccI (k : Dk) (ls : List LeaseR) (i : Nat) (S : PS) : Prop :=
  i ≤ ls.length ∧ (ls.take i).all rightL = true ∧ S.t 2 = .cptr (cells k.d) ∧ S.t 6 = .d (.slice ((gathL (ls.take i)).map byteD)) ∧ S.own (.t 6 0) = true ∧ S.t 16 = .d (.slice (ls.map LeaseR.d)) ∧ S.t 17 = .d (.int .i64 ls.length) ∧ S.t 18 = .d (.int .i64 i)
theorem cleanChanges (k : Dk) (hk : okK k) (ls : List LeaseR) (hl : ls.length ≤ 100000) (hky : ∀ l ∈ ls, l.key.length ≤ 1000000) :
    Holds Tryz.prog 16 [.d k.d, .d (.slice (ls.map LeaseR.d))] (.tup [.d (.slice ((changesC k ls).1.map ChR.d)), .d (.int .i64 (changesC k ls).2)]) (fun _ => false) := by
  refine Holds.by (by kernel_rfl) Tryz.func16 (by kernel_rfl) rfl [20002, 50020, 50021, 38, 52, 56] (by simp) (by kernel_rfl) (by kernel_rfl) rfl ?_
  conv in ccs _ => cbv
  simp (config := sc) (disch := first | exact dd | fail) [std, Dk.d]
  refine lp (ccI k ls) (fun i => ls.length - i) 0 ⟨by omega, by simp, by simp, by simp [gathL], by simp, by simp, by simp, by simp⟩ ?_
  rintro i S ⟨hi, ha, e2, e6, o6, e16, e17, e18⟩
  by_cases hlt : i < ls.length
  · have k6 : (i : Int) < ls.length := by omega
    have hn : nth ls (i : Int) = ls[i] := nth_nat hlt
    have q1 := recordWrite ls[i] (hky _ (List.getElem_mem hlt))
    cases hr : rightL ls[i] with
    | false =>
      have hz : changesC k ls = ([], 1) := by
        unfold changesC
        rw [if_pos (all_bad (p := rightL) hlt hr)]
      rw [hr] at q1
      rw [hz]
      generalize ls[i] = a at *
      simp (config := sc) (disch := first | exact dd | fail) [std, e2, e6, o6, e16, e17, e18, k6, hn]
      refine o_call rfl rfl q1 rfl rfl ?_
      simp (config := sc) (disch := first | exact dd | fail) [std, e2, e6, o6, e16, e17, e18, k6, hn]
    | true =>
      have ha2 := all_app hlt ha hr
      have hg : gathL (ls.take (i + 1)) = if (gathL (ls.take i)).length ≤ 20000 then gathL (ls.take i) ++ frameB (recB ls[i]) else gathL (ls.take i) := by rw [List.take_succ_eq_append_getElem hlt, gathL_snoc]
      have hgl := gathL_few (ls.take i) (List.all_eq_true.1 ha)
      have hfl := frame_few hr
      have hrl := rec_len hr
      have q2 := codeFrame (recB ls[i]) (by omega)
      rw [hr] at q1
      simp only [if_true] at q1
      generalize ls[i] = a at *
      generalize hgg : gathL (ls.take i) = gb at *
      generalize frameB (recB a) = fb at *
      generalize recB a = rb at *
      by_cases hc : (gb.length : Int) ≤ 20000
      · rw [if_pos (by omega)] at hg
        simp (config := sc) (disch := first | exact dd | fail) [std, e2, e6, o6, e16, e17, e18, k6, hn]
        refine o_call rfl rfl q1 rfl rfl ?_
        simp (config := sc) (disch := first | exact dd | fail) [std, e2, e6, o6, e16, e17, e18, k6, hn]
        refine o_call rfl rfl q2 rfl rfl ?_
        simp (config := sc) (disch := first | exact dd | fail) [std, e2, e6, o6, e16, e17, e18, k6, hn, hc]
        exact nxt_of (i + 1) ⟨by omega, ha2, by simp (config := sc) (disch := first | exact dd | fail) [std, e2], by rw [hg]; simp (config := sc) (disch := first | exact dd | fail) [std, e6], by simp (config := sc) (disch := first | exact dd | fail) [std], by simp (config := sc) (disch := first | exact dd | fail) [std, e16], by simp (config := sc) (disch := first | exact dd | fail) [std, e17], by simp (config := sc) (disch := first | exact dd | fail) [std]⟩ (by omega)
      · rw [if_neg (by omega)] at hg
        simp (config := sc) (disch := first | exact dd | fail) [std, e2, e6, o6, e16, e17, e18, k6, hn]
        refine o_call rfl rfl q1 rfl rfl ?_
        simp (config := sc) (disch := first | exact dd | fail) [std, e2, e6, o6, e16, e17, e18, k6, hn]
        refine o_call rfl rfl q2 rfl rfl ?_
        simp (config := sc) (disch := first | exact dd | fail) [std, e2, e6, o6, e16, e17, e18, k6, hn, hc]
        exact nxt_of (i + 1) ⟨by omega, ha2, by simp (config := sc) (disch := first | exact dd | fail) [std, e2], by rw [hg]; simp (config := sc) (disch := first | exact dd | fail) [std, e6], by simp (config := sc) (disch := first | exact dd | fail) [std, o6], by simp (config := sc) (disch := first | exact dd | fail) [std, e16], by simp (config := sc) (disch := first | exact dd | fail) [std, e17], by simp (config := sc) (disch := first | exact dd | fail) [std]⟩ (by omega)
  · have k6 : ¬ (i : Int) < ls.length := by omega
    have ht : ls.take i = ls := List.take_of_length_le (by omega)
    rw [ht] at ha e6
    have hsp := gathL_spec ls
    have q3 := diskGet k hk [107]
    unfold changesC
    rw [if_neg (by rw [ha]; simp)]
    generalize gathL ls = gb at *
    by_cases hc : 20000 < (bytesL ls).length
    · have hc2 := hsp.2 hc
      have hc' : (20000 : Int) < gb.length := by omega
      rw [if_pos hc]
      simp (config := sc) (disch := first | exact dd | fail) [std, e2, e6, o6, e16, e17, e18, k6, hc']
    · have hc2 := hsp.1 (by omega)
      rw [if_neg hc]
      rw [← hc2] at hc ⊢
      have hc' : ¬ (20000 : Int) < gb.length := by omega
      generalize getS k [107] = g at *
      by_cases h0 : g.2 = 0
      · rw [if_pos h0]
        simp (config := sc) (disch := first | exact dd | fail) [std, e2, e6, o6, e16, e17, e18, k6, hc']
        refine o_call rfl rfl q3 rfl rfl ?_
        simp (config := sc) (disch := first | exact dd | fail) [std, e2, e6, o6, e16, e17, e18, k6, hc', h0, putC, ChR.d]
      · rw [if_neg h0]
        simp (config := sc) (disch := first | exact dd | fail) [std, e2, e6, o6, e16, e17, e18, k6, hc']
        refine o_call rfl rfl q3 rfl rfl ?_
        simp (config := sc) (disch := first | exact dd | fail) [std, e2, e6, o6, e16, e17, e18, k6, hc', h0, putC, ChR.d]

def dueJ (k : Dk) (many : Int) : Bool := decide ((readJ (getS k [106]).1).2.2 = 0) && decide (many < ((readJ (getS k [106]).1).1.length : Int)) && decide ((lastL (readJ (getS k [106]).1).1).length < (readJ (getS k [106]).1).1.length)
theorem cleanDue (k : Dk) (hk : okK k) (many : Int) (hf : (readJ (getS k [106]).1).1.length ≤ 20000) : Holds Tryz.prog 15 [.d k.d, .d (.int .i64 many)] (.d (.bool (dueJ k many))) (fun _ => false) := by
  refine Holds.by (by kernel_rfl) Tryz.func15 (by kernel_rfl) rfl [20002] (by simp) (by kernel_rfl) (by kernel_rfl) rfl ?_
  conv in ccs _ => cbv
  have q1 := journalRead k hk (by have := get_len k [106]; omega)
  unfold dueJ
  generalize readJ (getS k [106]).1 = r at *
  obtain ⟨ls, n, e⟩ := r
  dsimp only at q1 hf ⊢
  have q2 := cleanLast ls (by omega)
  have hl := lastL_len ls
  by_cases h0 : e = 0
  · by_cases h1 : many < (ls.length : Int)
    · by_cases h2 : (lastL ls).length < ls.length
      · have h2' : ((lastL ls).length : Int) < ls.length := by omega
        simp (config := sc) (disch := first | exact dd | fail) [std, Dk.d]
        refine o_call rfl rfl q1 rfl rfl ?_
        simp (config := sc) (disch := first | exact dd | fail) [std, h0, h1]
        refine o_call rfl rfl q2 rfl rfl ?_
        simp (config := sc) (disch := first | exact dd | fail) [std, h2, h2', h0, h1]
      · have h2' : ¬ ((lastL ls).length : Int) < ls.length := by omega
        simp (config := sc) (disch := first | exact dd | fail) [std, Dk.d]
        refine o_call rfl rfl q1 rfl rfl ?_
        simp (config := sc) (disch := first | exact dd | fail) [std, h0, h1]
        refine o_call rfl rfl q2 rfl rfl ?_
        simp (config := sc) (disch := first | exact dd | fail) [std, h2, h2', h0, h1]
    · simp (config := sc) (disch := first | exact dd | fail) [std, Dk.d]
      refine o_call rfl rfl q1 rfl rfl ?_
      simp (config := sc) (disch := first | exact dd | fail) [std, h0, h1]
  · simp (config := sc) (disch := first | exact dd | fail) [std, Dk.d]
    refine o_call rfl rfl q1 rfl rfl ?_
    simp (config := sc) (disch := first | exact dd | fail) [std, h0]

theorem ref11Due (k : Dk) (hk : okK k) (many : Int) (hf : (readJ (getS k [106]).1).1.length ≤ 20000) : Holds Tryz.prog 19 [.d k.d, .d (.int .i64 many)] (.d (.bool (dueJ k many))) (fun _ => false) := by
  refine Holds.by (by kernel_rfl) Tryz.func19 (by kernel_rfl) rfl [20002] (by simp) (by kernel_rfl) (by kernel_rfl) rfl ?_
  conv in ccs _ => cbv
  have q1 := ref10Read k hk (by have := get_len k [106]; omega)
  unfold dueJ
  generalize readJ (getS k [106]).1 = r at *
  obtain ⟨ls, n, e⟩ := r
  dsimp only at q1 hf ⊢
  have q2 := ref11Last ls (by omega)
  have hl := lastL_len ls
  by_cases h0 : e = 0
  · by_cases h1 : many < (ls.length : Int)
    · by_cases h2 : (lastL ls).length < ls.length
      · have h2' : ¬ (ls.length : Int) = (lastL ls).length := by omega
        simp (config := sc) (disch := first | exact dd | fail) [std, Dk.d]
        refine o_call rfl rfl q1 rfl rfl ?_
        simp (config := sc) (disch := first | exact dd | fail) [std, h0, h1]
        refine o_call rfl rfl q2 rfl rfl ?_
        simp (config := sc) (disch := first | exact dd | fail) [std, h2, h2', h0, h1]
      · have h2' : (ls.length : Int) = (lastL ls).length := by omega
        simp (config := sc) (disch := first | exact dd | fail) [std, Dk.d]
        refine o_call rfl rfl q1 rfl rfl ?_
        simp (config := sc) (disch := first | exact dd | fail) [std, h0, h1]
        refine o_call rfl rfl q2 rfl rfl ?_
        simp (config := sc) (disch := first | exact dd | fail) [std, h2, h2', h0, h1]
    · simp (config := sc) (disch := first | exact dd | fail) [std, Dk.d]
      refine o_call rfl rfl q1 rfl rfl ?_
      simp (config := sc) (disch := first | exact dd | fail) [std, h0, h1]
  · simp (config := sc) (disch := first | exact dd | fail) [std, Dk.d]
    refine o_call rfl rfl q1 rfl rfl ?_
    simp (config := sc) (disch := first | exact dd | fail) [std, h0]

end Go.Proofs.YtkbidfohcanijaaGreat
