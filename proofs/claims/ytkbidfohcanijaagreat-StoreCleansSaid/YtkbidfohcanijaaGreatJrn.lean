/- Journals, second part: opening, adding; what the program and the document answer. -/
import Derived.Test.YtkbidfohcanijaaGreatJournal
namespace Go.Proofs.YtkbidfohcanijaaGreat
open BoEng Go
set_option maxRecDepth 100000
attribute [-simp] List.map_take List.map_drop List.length_flatMap
set_option linter.unusedSimpArgs false
set_option linter.unusedVariables false

theorem find_fair {k : Dk} (h : rightK k = true) {n : List UInt8} (hn : fairN n = false) : findK k.now n = none := by
  rw [find_none_iff]
  intro e he e2
  have := (rt_of h).n.fair e he
  rw [e2, hn] at this
  cases this
theorem sync_nil (k : Dk) : (syncS k []).1 = goodK k := by
  unfold syncS
  rw [find_fair (good_right k) (by decide)]
theorem get_len (k : Dk) (n : List UInt8) : (getS k n).1.length ≤ 20000 := by
  unfold getS
  have h := rt_of (good_right k)
  split
  · exact fileAt_sz (fun f hf => (fileOk_iff.1 (h.f f hf)).1) _
  · simp
theorem get_good (k : Dk) (n : List UInt8) : getS (goodK k) n = getS k n := by unfold getS; rw [good_good]
theorem sync_good (k : Dk) (n : List UInt8) : syncS (goodK k) n = syncS k n := by unfold syncS; rw [good_good]
theorem cut_good (k : Dk) (n : List UInt8) (m : Int) : cutS (goodK k) n m = cutS k n m := by unfold cutS; rw [good_good]
theorem remove_good (k : Dk) (n : List UInt8) : removeS (goodK k) n = removeS k n := by unfold removeS; rw [good_good]

/-- A disk is opened. -/
def openJ (k : Dk) : Dk × Int :=
  if (readJ (getS k nJ).1).2.2 = 4 then (syncDirS (removeS (syncS (cutS k nJ (readJ (getS k nJ).1).2.1).1 nJ).1 nK).1, 0)
  else if (readJ (getS k nJ).1).2.2 = 0 then (syncDirS (removeS (syncS k nJ).1 nK).1, 0)
  else (dk0, (readJ (getS k nJ).1).2.2)

theorem journalOwn (k : Dk) (hk : okK k) : Holds Tryz.prog 49 [.d k.d] (.d (goodK k).d) (fun _ => false) := by
  refine Holds.by (by kernel_rfl) Tryz.func49 (by kernel_rfl) rfl [] (by simp) (by kernel_rfl) (by kernel_rfl) rfl ?_
  conv in ccs _ => cbv
  have q := diskSync k hk []
  rw [sync_nil] at q
  have hdd : ∀ d : Dk, d.d = .agg (cells d.d) := fun _ => rfl
  generalize goodK k = d at *
  simp (config := sc) (disch := first | exact dd | fail) [std, Dk.d]
  refine o_call rfl rfl q rfl rfl ?_
  simp (config := sc) (disch := first | exact dd | fail) [std, Dk.d]

theorem journalOpen (k : Dk) (hk : okK k) : Holds Tryz.prog 28 [.d k.d] (.tup [.d (openJ k).1.d, .d (.int .i64 (openJ k).2)]) (fun _ => false) := by
  refine Holds.by (by kernel_rfl) Tryz.func28 (by kernel_rfl) rfl [] (by simp) (by kernel_rfl) (by kernel_rfl) rfl ?_
  conv in ccs _ => cbv
  have q1 := journalRead k hk (by have := get_len k [106]; omega)
  unfold openJ
  generalize readJ (getS k nJ).1 = r at *
  obtain ⟨l, n, e⟩ := r
  dsimp only at q1 ⊢
  have q2 := diskCut k hk nJ n
  have h2 := ok_right (cut_right k nJ n)
  by_cases h4 : e = 4
  · rw [if_pos h4]
    generalize cutS k nJ n = c at *
    have q3 := diskSync c.1 h2 nJ
    have h3 := ok_right (sync_right c.1 nJ)
    generalize syncS c.1 nJ = s at *
    have q4 := diskRemove s.1 h3 nK
    have h4' := ok_right (remove_right s.1 nK)
    generalize removeS s.1 nK = m at *
    have q5 := diskSyncDir m.1 h4'
    generalize syncDirS m.1 = z at *
    simp (config := sc) (disch := first | exact dd | fail) [std, Dk.d]
    refine o_call rfl rfl q1 rfl rfl ?_
    simp (config := sc) (disch := first | exact dd | fail) [std, h4]
    refine o_call rfl rfl q2 rfl rfl ?_
    simp (config := sc) (disch := first | exact dd | fail) [std, h4]
    refine o_call rfl rfl q3 rfl rfl ?_
    simp (config := sc) (disch := first | exact dd | fail) [std, h4]
    refine o_call rfl rfl q4 rfl rfl ?_
    simp (config := sc) (disch := first | exact dd | fail) [std, h4]
    refine o_call rfl rfl q5 rfl rfl ?_
    simp (config := sc) (disch := first | exact dd | fail) [std, Dk.d]
  rw [if_neg h4]
  by_cases h0 : e = 0
  · rw [if_pos h0]
    have q3 := diskSync k hk nJ
    have h3 := ok_right (sync_right k nJ)
    generalize syncS k nJ = s at *
    have q4 := diskRemove s.1 h3 nK
    have h4' := ok_right (remove_right s.1 nK)
    generalize removeS s.1 nK = m at *
    have q5 := diskSyncDir m.1 h4'
    generalize syncDirS m.1 = z at *
    simp (config := sc) (disch := first | exact dd | fail) [std, Dk.d]
    refine o_call rfl rfl q1 rfl rfl ?_
    simp (config := sc) (disch := first | exact dd | fail) [std, h4, h0]
    refine o_call rfl rfl q3 rfl rfl ?_
    simp (config := sc) (disch := first | exact dd | fail) [std, h4]
    refine o_call rfl rfl q4 rfl rfl ?_
    simp (config := sc) (disch := first | exact dd | fail) [std, h4]
    refine o_call rfl rfl q5 rfl rfl ?_
    simp (config := sc) (disch := first | exact dd | fail) [std, Dk.d]
  · rw [if_neg h0]
    simp (config := sc) (disch := first | exact dd | fail) [std, Dk.d]
    refine o_call rfl rfl q1 rfl rfl ?_
    simp (config := sc) (disch := first | exact dd | fail) [std, h4, h0, dk0]

def jfI (l : List Ent) (name : List UInt8) (i : Nat) (S : PS) : Prop :=
  i ≤ l.length ∧ (∀ j (h : j < l.length), j < i → l[j].name ≠ name) ∧ S.t 7 = .d (.slice (l.map Ent.d)) ∧ S.t 1 = .d (.str name) ∧ S.t 8 = .d (.int .i64 l.length) ∧ S.t 9 = .d (.int .i64 i)
theorem journalFile (l : List Ent) (name : List UInt8) (hl : l.length ≤ 1000000) : Holds Tryz.prog 50 [.d (.slice (l.map Ent.d)), .d (.str name)] (.d (.int .i64 (findI l name))) (fun _ => false) := by
  refine Holds.by (by kernel_rfl) Tryz.func50 (by kernel_rfl) rfl [] (by simp) (by kernel_rfl) (by kernel_rfl) rfl ?_
  conv in ccs _ => cbv
  simp (config := sc) (disch := first | exact dd | fail) [std]
  refine lp (jfI l name) (fun i => l.length - i) 0 ⟨by omega, by simp, by simp⟩ ?_
  rintro i S ⟨hi, hn, e7, e1, e8, e9⟩
  by_cases hlt : i < l.length
  · have k6 : (i : Int) < l.length := by omega
    by_cases hc : l[i].name = name
    · have hr : findI l name = l[i].file := by simp [findI, find_first hlt hn hc]
      simp (config := sc) (disch := first | exact dd | fail) [std, e7, e1, e8, e9, k6, hc, hr]
    · simp (config := sc) (disch := first | exact dd | fail) [std, e7, e1, e8, e9, k6, hc]
      exact nxt_of (i + 1) ⟨by omega, fun j h hj => by
        by_cases e : j = i
        · subst e; exact hc
        · exact hn j h (by omega), by simp (config := sc) (disch := first | exact dd | fail) [std, e7, e1, e8, e9]⟩ (by omega)
  · have k6 : ¬ (i : Int) < l.length := by omega
    have hr : findI l name = -1 := by simp [findI, find_no fun j hj => hn j hj (by omega)]
    simp (config := sc) (disch := first | exact dd | fail) [std, e7, e1, e8, e9, k6, hr]

def slI (a b : List LeaseR) (i : Nat) (S : PS) : Prop :=
  i ≤ a.length ∧ a.take i = b.take i ∧ S.t 0 = .d (.slice (a.map LeaseR.d)) ∧ S.t 1 = .d (.slice (b.map LeaseR.d)) ∧ S.t 5 = .d (.int .i64 i)
theorem ref10SameLeases (a b : List LeaseR) (ha : a.length ≤ 1000000) (hb : b.length ≤ 1000000) : Holds Tryz.prog 23 [.d (.slice (a.map LeaseR.d)), .d (.slice (b.map LeaseR.d))] (.d (.bool (decide (a = b)))) (fun _ => false) := by
  refine Holds.by (by kernel_rfl) Tryz.func23 (by kernel_rfl) rfl [] (by simp) (by kernel_rfl) (by kernel_rfl) rfl ?_
  conv in ccs _ => cbv
  by_cases hl : a.length = b.length
  · have hl' : (a.length : Int) = b.length := by omega
    simp (config := sc) (disch := first | exact dd | fail) [std, hl']
    refine lp (slI a b) (fun i => a.length - i) 0 ⟨by omega, by simp, by simp, by simp, by simp⟩ ?_
    rintro i S ⟨hi, hn, e0, e1, e5⟩
    by_cases hlt : i < a.length
    · have k6 : (i : Int) < a.length := by omega
      have k7 : (i : Int) < b.length := by omega
      have hlb : i < b.length := by omega
      by_cases hc : a[i] = b[i]
      · simp (config := sc) (disch := first | exact dd | fail) [std, e0, e1, e5, k6, k7, hlb, hc]
        exact nxt_of (i + 1) ⟨by omega, by rw [List.take_succ_eq_append_getElem hlt, List.take_succ_eq_append_getElem hlb, hn, hc], by simp (config := sc) (disch := first | exact dd | fail) [std, e0], by simp (config := sc) (disch := first | exact dd | fail) [std, e1], by simp⟩ (by omega)
      · have hne : a ≠ b := fun h => hc (by subst h; rfl)
        have hx : ¬ (a[i].addr = b[i].addr ∧ a[i].state = b[i].state ∧ a[i].expiry = b[i].expiry ∧ a[i].key = b[i].key) := by
          intro ⟨h1, h2, h3, h4⟩
          apply hc
          generalize a[i] = x at *
          generalize b[i] = y at *
          cases x; cases y
          simp_all
        have hx2 : (!decide (a[i].addr = b[i].addr) || (!decide (a[i].state = b[i].state) || (!decide (a[i].expiry = b[i].expiry) || !decide (a[i].key = b[i].key)))) = true := by
          by_cases h1 : a[i].addr = b[i].addr
          · by_cases h2 : a[i].state = b[i].state
            · by_cases h3 : a[i].expiry = b[i].expiry
              · by_cases h4 : a[i].key = b[i].key
                · exact absurd ⟨h1, h2, h3, h4⟩ hx
                · simp [h4]
              · simp [h3]
            · simp [h2]
          · simp [h1]
        simp (config := sc) (disch := first | exact dd | fail) [std, e0, e1, e5, k6, k7, hlb, hne, hx2]
    · have k6 : ¬ (i : Int) < a.length := by omega
      have he : a = b := by rwa [List.take_of_length_le (by omega), List.take_of_length_le (by omega)] at hn
      have he' : decide (a = b) = true := decide_eq_true he
      rw [he']
      simp (config := sc) (disch := first | exact dd | fail) [std, e0, e1, e5, k6]
  · have hl' : ¬ (a.length : Int) = b.length := by omega
    have hne : a ≠ b := fun h => hl (by rw [h])
    simp (config := sc) (disch := first | exact dd | fail) [std, hl', hne]

end Go.Proofs.YtkbidfohcanijaaGreat
