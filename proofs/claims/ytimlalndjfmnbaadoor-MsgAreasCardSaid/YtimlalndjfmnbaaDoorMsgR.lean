/- Messages that may be, and numbers in options: what the program's msg.Right and opts.Number and the document's layers 4 and 5 answer. -/
import Derived.Test.YtimlalndjfmnbaaDoorRelay
namespace Go.Proofs.YtimlalndjfmnbaaDoor
open BoEng Go
set_option maxRecDepth 100000
attribute [-simp] List.map_take List.map_drop List.length_flatMap
set_option linter.unusedSimpArgs false
set_option linter.unusedVariables false

/-- The number of an option. -/
def numS (l : List Opt) (c : Int) : Option Int := match findS l c with | some d => if d.length = 4 then some (valB d) else none | none => none
theorem findS_sized {l : List Opt} {c : Int} {d : List UInt8} (hl : sized l) (h : findS l c = some d) : d.length ≤ 100000 := by
  unfold findS at h
  simp only [Option.map_eq_some_iff] at h
  obtain ⟨o, ho, rfl⟩ := h
  exact hl.2 o (List.mem_of_find?_eq_some ho)

def rightM (m : Msg) : Bool :=
  decide (0 ≤ m.op ∧ m.op ≤ 255) && decide (0 ≤ m.htype ∧ m.htype ≤ 255) && decide (0 ≤ m.hlen ∧ m.hlen ≤ 16) && decide (0 ≤ m.hops ∧ m.hops ≤ 255) &&
  rightA m.xid && decide (0 ≤ m.secs ∧ m.secs ≤ 65535) && decide (0 ≤ m.flags ∧ m.flags ≤ 65535) && rightA m.ci && rightA m.yi && rightA m.si && rightA m.gi &&
  decide (m.chaddr.length = 16) && rightO m.opts && (findS m.opts 52).isNone
def sizedM (m : Msg) : Prop := m.chaddr.length ≤ 100000 ∧ sized m.opts
theorem has_find (l : List Opt) (c : Int) : (findS l c).isNone = decide (hasN l c = 0) := by
  have h0 : hasN l c = 0 ↔ (l.countP fun o => decide (o.code = c)) = 0 := by unfold hasN; omega
  rw [Bool.eq_iff_iff, decide_eq_true_eq, h0, List.countP_eq_zero]
  simp [findS]

theorem msgWithin (n k : Int) : Holds Tryd.prog 29 [.d (.int .i64 n), .d (.int .i64 k)] (.d (.bool (decide (0 ≤ n ∧ n ≤ k)))) (fun _ => false) := by
  refine Holds.by (by kernel_rfl) Tryd.func29 (by kernel_rfl) rfl [] (by simp) (by kernel_rfl) (by kernel_rfl) rfl ?_
  conv in ccs _ => cbv
  repeat' (first | (simp (config := sc) (disch := try exact dd) [*, std]) | (refine sel_by ?_ ?_ <;> intro hc <;> have hc2 := hc <;> (try simp only [decide_eq_true_eq, decide_eq_false_iff_not, Bool.and_eq_true, Bool.or_eq_true, Bool.not_eq_true', Bool.not_eq_false', Bool.or_eq_false_iff, Bool.and_eq_false_iff] at hc2) <;> try omega) | (refine cnd_by ?_ ?_ <;> intro hc <;> have hc2 := hc <;> (try simp only [decide_eq_true_eq, decide_eq_false_iff_not, Bool.and_eq_true, Bool.or_eq_true, Bool.not_eq_true', Bool.not_eq_false', Bool.or_eq_false_iff, Bool.and_eq_false_iff] at hc2) <;> try omega) | (refine onSt_if (by omega) ?_) | (split <;> try omega) | omega)

def mrI1 (m : Msg) (i : Nat) (S : PS) : Prop :=
  i ≤ 3 ∧ (∀ j, j < i → ∀ x, [m.op, m.htype, m.hops][j]? = some x → 0 ≤ x ∧ x ≤ 255) ∧ S.t 1 = .ptr (FO + 1) 1 0 ∧ S.gen (FO + 1) = 1 ∧ S.box (FO + 1) = (cells m.d).map .d ∧ S.t 15 = .d (.slice [.int .i64 m.op, .int .i64 m.htype, .int .i64 m.hops]) ∧ S.t 16 = .d (.int .i64 3) ∧ S.t 17 = .d (.int .i64 i)
def mrI2 (m : Msg) (i : Nat) (S : PS) : Prop :=
  i ≤ 5 ∧ (∀ j, j < i → ∀ x, [m.xid, m.ci, m.yi, m.si, m.gi][j]? = some x → rightA x = true) ∧ S.t 1 = .ptr (FO + 1) 1 0 ∧ S.gen (FO + 1) = 1 ∧ S.box (FO + 1) = (cells m.d).map .d ∧ S.t 35 = .d (.slice [.int .i64 m.xid, .int .i64 m.ci, .int .i64 m.yi, .int .i64 m.si, .int .i64 m.gi]) ∧ S.t 36 = .d (.int .i64 5) ∧ S.t 37 = .d (.int .i64 i)
theorem msgRight (m : Msg) (hm : sizedM m) : Holds Tryd.prog 12 [.d m.d] (.d (.bool (rightM m))) (fun _ => false) := by
  refine Holds.by (by kernel_rfl) Tryd.func12 (by kernel_rfl) rfl [] (by simp) (by kernel_rfl) (by kernel_rfl) rfl ?_
  conv in ccs _ => cbv
  obtain ⟨hc, hs⟩ := hm
  simp (config := sc) (disch := try exact dd) [std]
  refine lp (mrI1 m) (fun i => 3 - i) 0 ⟨by omega, by simp, by simp⟩ ?_
  rintro i S ⟨hi, hn, e1, eg, eb, e15, e16, e17⟩
  simp only [Msg.d_eq, cells_agg, List.map_cons, List.map_nil] at eb
  by_cases hlt : i < 3
  · have hx : ∃ x, [m.op, m.htype, m.hops][i]? = some x ∧ ([DV.int .i64 m.op, .int .i64 m.htype, .int .i64 m.hops])[i]? = some (.int .i64 x) ∧ (¬ (0 ≤ x ∧ x ≤ 255) → rightM m = false) := by
      match i, hlt with
      | 0, _ => exact ⟨m.op, rfl, rfl, fun h => by simp only [rightM, decide_eq_false h, Bool.false_and]⟩
      | 1, _ => exact ⟨m.htype, rfl, rfl, fun h => by simp only [rightM, decide_eq_false h, Bool.false_and, Bool.and_false]⟩
      | 2, _ => exact ⟨m.hops, rfl, rfl, fun h => by simp only [rightM, decide_eq_false h, Bool.false_and, Bool.and_false]⟩
    obtain ⟨x, hx1, hx2, hx3⟩ := hx
    have hL := e15
    generalize [DV.int .i64 m.op, .int .i64 m.htype, .int .i64 m.hops] = L at hL hx2
    by_cases hw : 0 ≤ x ∧ x ≤ 255
    · simp (config := sc) (disch := try exact dd) [std, e1, eg, eb, hL, e16, e17, indexAddrV_lit, hx2]
      refine oc (msgWithin x 255) ?_
      simp (config := sc) (disch := try exact dd) [std, e1, eg, eb, e15, e16, e17, hw]
      exact nxt_of (i + 1) ⟨by omega, fun j hj y hy => by
        rcases Nat.lt_or_ge j i with h | h
        · exact hn j h y hy
        · have : j = i := by omega
          subst this
          rw [hx1] at hy
          cases hy
          exact hw, by simp (config := sc) (disch := try exact dd) [std, e1, eg, eb, e15, e16, e17]⟩ (by omega)
    · have hf := hx3 hw
      simp (config := sc) (disch := try exact dd) [std, e1, eg, eb, hL, e16, e17, indexAddrV_lit, hx2]
      refine oc (msgWithin x 255) ?_
      rw [decide_eq_false hw]
      simp (config := sc) (disch := try exact dd) [std, e1, eg, eb, e15, e16, e17, hf]
  · have hi3 : i = 3 := by omega
    subst hi3
    have n1 := hn 0 (by omega) m.op rfl
    have n2 := hn 1 (by omega) m.htype rfl
    have n3 := hn 2 (by omega) m.hops rfl
    simp (config := sc) (disch := try exact dd) [std, e1, eg, eb, e15, e16, e17]
    refine lp (mrI2 m) (fun i => 5 - i) 0 ⟨by omega, by simp, by simp (config := sc) (disch := try exact dd) [std, e1, eg, eb, e15, e16, e17]⟩ ?_
    rintro i S ⟨hi, hn, e1, eg, eb, e35, e36, e37⟩
    simp only [Msg.d_eq, cells_agg, List.map_cons, List.map_nil] at eb
    by_cases hlt : i < 5
    · have hx : ∃ x, [m.xid, m.ci, m.yi, m.si, m.gi][i]? = some x ∧ ([DV.int .i64 m.xid, .int .i64 m.ci, .int .i64 m.yi, .int .i64 m.si, .int .i64 m.gi])[i]? = some (.int .i64 x) ∧ (rightA x = false → rightM m = false) := by
        match i, hlt with
        | 0, _ => exact ⟨m.xid, rfl, rfl, fun h => by simp only [rightM, h, Bool.false_and, Bool.and_false]⟩
        | 1, _ => exact ⟨m.ci, rfl, rfl, fun h => by simp only [rightM, h, Bool.false_and, Bool.and_false]⟩
        | 2, _ => exact ⟨m.yi, rfl, rfl, fun h => by simp only [rightM, h, Bool.false_and, Bool.and_false]⟩
        | 3, _ => exact ⟨m.si, rfl, rfl, fun h => by simp only [rightM, h, Bool.false_and, Bool.and_false]⟩
        | 4, _ => exact ⟨m.gi, rfl, rfl, fun h => by simp only [rightM, h, Bool.false_and, Bool.and_false]⟩
      obtain ⟨x, hx1, hx2, hx3⟩ := hx
      have hL := e35
      generalize [DV.int .i64 m.xid, .int .i64 m.ci, .int .i64 m.yi, .int .i64 m.si, .int .i64 m.gi] = L at hL hx2
      cases hw : rightA x with
      | true =>
        simp (config := sc) (disch := try exact dd) [std, e1, eg, eb, hL, e36, e37, indexAddrV_lit, hx2]
        refine oc (addrRight x) ?_
        simp (config := sc) (disch := try exact dd) [std, e1, eg, eb, e35, e36, e37, hw]
        exact nxt_of (i + 1) ⟨by omega, fun j hj y hy => by
          rcases Nat.lt_or_ge j i with h | h
          · exact hn j h y hy
          · have : j = i := by omega
            subst this
            rw [hx1] at hy
            cases hy
            exact hw, by simp (config := sc) (disch := try exact dd) [std, e1, eg, eb, e35, e36, e37]⟩ (by omega)
      | false =>
        have hf := hx3 hw
        simp (config := sc) (disch := try exact dd) [std, e1, eg, eb, hL, e36, e37, indexAddrV_lit, hx2]
        refine oc (addrRight x) ?_
        simp (config := sc) (disch := try exact dd) [std, e1, eg, eb, e35, e36, e37, hw, hf]
    · have hi5 : i = 5 := by omega
      subst hi5
      have a1 := hn 0 (by omega) m.xid rfl
      have a2 := hn 1 (by omega) m.ci rfl
      have a3 := hn 2 (by omega) m.yi rfl
      have a4 := hn 3 (by omega) m.si rfl
      have a5 := hn 4 (by omega) m.gi rfl
      have hr : rightM m = (decide (0 ≤ m.hlen ∧ m.hlen ≤ 16) && decide (0 ≤ m.secs ∧ m.secs ≤ 65535) && decide (0 ≤ m.flags ∧ m.flags ≤ 65535) && decide (m.chaddr.length = 16) && rightO m.opts && (findS m.opts 52).isNone) := by
        simp [rightM, n1, n2, n3, a1, a2, a3, a4, a5]
      have q1 := msgWithin m.hlen 16
      have q2 := msgWithin m.secs 65535
      have q3 := msgWithin m.flags 65535
      generalize decide (0 ≤ m.hlen ∧ m.hlen ≤ 16) = b1 at hr q1
      generalize decide (0 ≤ m.secs ∧ m.secs ≤ 65535) = b2 at hr q2
      generalize decide (0 ≤ m.flags ∧ m.flags ≤ 65535) = b3 at hr q3
      rw [hr]
      simp (config := sc) (disch := try exact dd) [std, e1, eg, eb, e35, e36, e37]
      refine oc (tlvFind m.opts 52 hs) ?_
      simp (config := sc) (disch := try exact dd) [std, e1, eg, eb]
      refine oc q1 ?_
      cases b1 with
      | false => simp (config := sc) (disch := try exact dd) [std, e1, eg, eb]
      | true =>
        simp (config := sc) (disch := try exact dd) [std, e1, eg, eb]
        refine oc q2 ?_
        cases b2 with
        | false => simp (config := sc) (disch := try exact dd) [std, e1, eg, eb]
        | true =>
          simp (config := sc) (disch := try exact dd) [std, e1, eg, eb]
          refine oc q3 ?_
          cases b3 with
          | false => simp (config := sc) (disch := try exact dd) [std, e1, eg, eb]
          | true =>
            by_cases b4 : m.chaddr.length = 16
            · have b4' : (m.chaddr.length : Int) = 16 := by omega
              simp (config := sc) (disch := try exact dd) [std, e1, eg, eb, b4', b4]
              refine oc (tlvRight m.opts hs) ?_
              cases b5 : rightO m.opts with
              | false => simp (config := sc) (disch := try exact dd) [std, e1, eg, eb]
              | true =>
                cases b6 : findS m.opts 52 <;> simp (config := sc) (disch := try exact dd) [std, e1, eg, eb]
            · have b4' : ¬ (m.chaddr.length : Int) = 16 := by omega
              simp (config := sc) (disch := try exact dd) [std, e1, eg, eb, b4', b4]

theorem ref04Right (m : Msg) (hm : sizedM m) : Holds Tryd.prog 13 [.d m.d] (.d (.bool (rightM m))) (fun _ => false) := by
  refine Holds.by (by kernel_rfl) Tryd.func13 (by kernel_rfl) rfl [] (by simp) (by kernel_rfl) (by kernel_rfl) rfl ?_
  conv in ccs _ => cbv
  obtain ⟨hc, hs⟩ := hm
  have hhf := has_find m.opts 52
  have hcl : (decide (m.chaddr.length = 16)) = decide ((m.chaddr.length : Int) = 16) := by rw [Bool.eq_iff_iff]; simp; omega
  unfold rightM
  rw [hhf, hcl]
  repeat' (first | (simp (config := sc) (disch := try exact dd) [*, std]) | (refine oc (ref01Right _) ?_) | (refine oc (ref03Right _ hs) ?_) | (refine oc (ref03Has _ _ hs) ?_) | (refine sel_by ?_ ?_ <;> intro hc <;> have hc2 := hc <;> (try simp only [decide_eq_true_eq, decide_eq_false_iff_not, Bool.and_eq_true, Bool.or_eq_true, Bool.not_eq_true', Bool.not_eq_false', Bool.or_eq_false_iff, Bool.and_eq_false_iff] at hc2) <;> try omega) | (refine cnd_by ?_ ?_ <;> intro hc <;> have hc2 := hc <;> (try simp only [decide_eq_true_eq, decide_eq_false_iff_not, Bool.and_eq_true, Bool.or_eq_true, Bool.not_eq_true', Bool.not_eq_false', Bool.or_eq_false_iff, Bool.and_eq_false_iff] at hc2) <;> try omega) | (refine onSt_if (by omega) ?_) | (split <;> try omega) | omega)

end Go.Proofs.YtimlalndjfmnbaaDoor
