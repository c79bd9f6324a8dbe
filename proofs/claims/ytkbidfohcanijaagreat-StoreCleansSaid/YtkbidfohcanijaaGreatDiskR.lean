/- Disks: what the document's layer 8 answers, first part. -/
import Derived.Test.YtkbidfohcanijaaGreatDiskX
namespace Go.Proofs.YtkbidfohcanijaaGreat
open BoEng Go
set_option maxRecDepth 100000
attribute [-simp] List.map_take List.map_drop List.length_flatMap
set_option linter.unusedSimpArgs false
set_option linter.unusedVariables false

theorem ref08Fair (n : List UInt8) (hn : n.length ≤ 9223372036854775807) : Holds Tryz.prog 98 [.d (.str n)] (.d (.bool (fairN n))) (fun _ => false) := by
  refine Holds.by (by kernel_rfl) Tryz.func98 (by kernel_rfl) rfl [] (by simp) (by kernel_rfl) (by kernel_rfl) rfl ?_
  conv in ccs _ => cbv
  by_cases h1 : (0 : Int) < n.length
  · have hf : fairN n = decide ((n.length : Int) ≤ 16) := by
      rw [Bool.eq_iff_iff]
      simp only [fairN, decide_eq_true_eq]
      omega
    have h2 : 0 < n.length := by omega
    simp (config := sc) (disch := first | exact dd | fail) [std, hf, h1, h2]
  · have hf : fairN n = false := by
      rw [Bool.eq_false_iff]
      simp only [fairN, ne_eq, decide_eq_true_eq]
      omega
    have h2 : ¬ 0 < n.length := by omega
    simp (config := sc) (disch := first | exact dd | fail) [std, hf, h1, h2]

def rhsI (l : List Ent) (n : Nat) (x : Int) (i : Nat) (S : PS) : Prop :=
  i ≤ n ∧ hasF (l.take i) x = false ∧ S.t 0 = .d (.slice (l.map Ent.d)) ∧ S.t 1 = .d (.int .i64 n) ∧ S.t 2 = .d (.int .i64 x) ∧ S.t 7 = .d (.int .i64 i)
theorem ref08Has (l : List Ent) (n : Nat) (x : Int) (hn : n ≤ l.length) (hl : l.length ≤ 1000000) : Holds Tryz.prog 107 [.d (.slice (l.map Ent.d)), .d (.int .i64 n), .d (.int .i64 x)] (.d (.bool (hasF (l.take n) x))) (fun _ => false) := by
  refine Holds.by (by kernel_rfl) Tryz.func107 (by kernel_rfl) rfl [] (by simp) (by kernel_rfl) (by kernel_rfl) rfl ?_
  conv in ccs _ => cbv
  simp (config := sc) (disch := first | exact dd | fail) [std]
  refine lp (rhsI l n x) (fun i => n - i) 0 ⟨by omega, by simp [hasF], by simp⟩ ?_
  rintro i S ⟨hi, hh, e0, e1, e2, e7⟩
  by_cases hlt : i < n
  · have k6 : (i : Int) < n := by omega
    have hil : i < l.length := by omega
    have ht := hasF_take (x := x) hil
    by_cases hc : l[i].file = x
    · have hr : hasF (l.take n) x = true := by
        rw [hasF_iff]
        refine ⟨l[i], ?_, hc⟩
        rw [List.mem_take_iff_getElem]
        exact ⟨i, by omega, rfl⟩
      simp (config := sc) (disch := first | exact dd | fail) [std, e0, e1, e2, e7, k6, hc, hr]
    · simp (config := sc) (disch := first | exact dd | fail) [std, e0, e1, e2, e7, k6, hc]
      exact nxt_of (i + 1) ⟨by omega, by rw [ht, hh]; simp [hc], by simp (config := sc) (disch := first | exact dd | fail) [std, e0, e1, e2]⟩ (by omega)
  · have k6 : ¬ (i : Int) < n := by omega
    have : i = n := by omega
    subst this
    simp (config := sc) (disch := first | exact dd | fail) [std, e0, e1, e2, e7, k6, hh]

def rnI (l : List Ent) (many : Nat) (i : Nat) (S : PS) : Prop :=
  i ≤ l.length ∧ (∀ j, j < i → nmAt l many j = true) ∧ S.t 0 = .d (.slice (l.map Ent.d)) ∧ S.t 1 = .d (.int .i64 many) ∧ S.t 5 = .d (.int .i64 i)
theorem ref08Named (l : List Ent) (many : Nat) (hl : sizedE l) (hm : many ≤ 100000) : Holds Tryz.prog 96 [.d (.slice (l.map Ent.d)), .d (.int .i64 many)] (.d (.bool (namedS l many))) (fun _ => false) := by
  refine Holds.by (by kernel_rfl) Tryz.func96 (by kernel_rfl) rfl [] (by simp) (by kernel_rfl) (by kernel_rfl) rfl ?_
  conv in ccs _ => cbv
  have hll := hl.1
  simp (config := sc) (disch := first | exact dd | fail) [std]
  refine lp (rnI l many) (fun i => l.length - i) 0 ⟨by omega, by simp, by simp⟩ ?_
  rintro i S ⟨hi, hn, e0, e1, e5⟩
  by_cases hlt : i < l.length
  · have k6 : (i : Int) < l.length := by omega
    have hf := ref08Fair l[i].name (hl.2 _ (List.getElem_mem hlt))
    have hh := ref08Has l i l[i].file (by omega) (by omega)
    have hng := nmAt_get (l := l) (many := many) hlt
    cases h1 : fairN l[i].name with
    | false =>
      have hr := named_no hlt (hng.trans (by simp [h1]))
      rw [h1] at hf
      simp (config := sc) (disch := first | exact dd | fail) [std, e0, e1, e5, k6, hr]
      refine o_call rfl rfl hf rfl rfl ?_
      simp (config := sc) (disch := first | exact dd | fail) [std, e0, e1, e5, k6, hr]
    | true =>
      rw [h1] at hf
      by_cases h2 : l[i].file < 0
      · have hr := named_no hlt (hng.trans (by have : ¬ 0 ≤ l[i].file := by omega
                                               simp [this]))
        simp (config := sc) (disch := first | exact dd | fail) [std, e0, e1, e5, k6, hr]
        refine o_call rfl rfl hf rfl rfl ?_
        simp (config := sc) (disch := first | exact dd | fail) [std, e0, e1, e5, k6, hr, h2]
      · by_cases h3 : (many : Int) ≤ l[i].file
        · have hr := named_no hlt (hng.trans (by have : ¬ l[i].file < many := by omega
                                                 simp [this]))
          simp (config := sc) (disch := first | exact dd | fail) [std, e0, e1, e5, k6, hr]
          refine o_call rfl rfl hf rfl rfl ?_
          simp (config := sc) (disch := first | exact dd | fail) [std, e0, e1, e5, k6, hr, h2, h3]
        · cases h4 : hasF (l.take i) l[i].file with
          | true =>
            have hr := named_no hlt (hng.trans (by simp [h4]))
            rw [h4] at hh
            simp (config := sc) (disch := first | exact dd | fail) [std, e0, e1, e5, k6, hr]
            refine o_call rfl rfl hf rfl rfl ?_
            simp (config := sc) (disch := first | exact dd | fail) [std, e0, e1, e5, k6, hr, h2, h3]
            refine o_call rfl rfl hh rfl rfl ?_
            simp (config := sc) (disch := first | exact dd | fail) [std, e0, e1, e5, k6, hr, h2, h3]
          | false =>
            rw [h4] at hh
            have g2 : 0 ≤ l[i].file := by omega
            have g3 : l[i].file < many := by omega
            by_cases h0 : (0 : Int) < i
            · have hp : i - 1 < l.length := by omega
              have hpi : (i : Int) - 1 = ((i - 1 : Nat) : Int) := by omega
              have hi0 : ¬ i = 0 := by omega
              rw [List.getD_eq_getElem?_getD, List.getElem?_eq_getElem hp, Option.getD_some] at hng
              cases h6 : strLt l[i - 1].name l[i].name with
              | false =>
                have hr := named_no hlt (hng.trans (by simp [h6, hi0]))
                simp (config := sc) (disch := first | exact dd | fail) [std, e0, e1, e5, k6, hr]
                refine o_call rfl rfl hf rfl rfl ?_
                simp (config := sc) (disch := first | exact dd | fail) [std, e0, e1, e5, k6, hr, h2, h3]
                refine o_call rfl rfl hh rfl rfl ?_
                simp (config := sc) (disch := first | exact dd | fail) [std, e0, e1, e5, k6, hr, h2, h3, h0, hpi, hp, h6]
              | true =>
                have hy : nmAt l many i = true := hng.trans (by simp [h1, g2, g3, h4, h6])
                simp (config := sc) (disch := first | exact dd | fail) [std, e0, e1, e5, k6]
                refine o_call rfl rfl hf rfl rfl ?_
                simp (config := sc) (disch := first | exact dd | fail) [std, e0, e1, e5, k6, h2, h3]
                refine o_call rfl rfl hh rfl rfl ?_
                simp (config := sc) (disch := first | exact dd | fail) [std, e0, e1, e5, k6, h2, h3, h0, hpi, hp, h6]
                exact nxt_of (i + 1) ⟨by omega, fun j hj => by
                  by_cases e : j = i
                  · subst e; exact hy
                  · exact hn j (by omega), by simp (config := sc) (disch := first | exact dd | fail) [std, e0, e1]⟩ (by omega)
            · have hy : nmAt l many i = true := by
                rw [hng, h1, h4]
                simp only [g2, g3, and_self, decide_true, Bool.true_and, Bool.not_false, Bool.or_eq_true, decide_eq_true_eq]
                exact .inl (by omega)
              simp (config := sc) (disch := first | exact dd | fail) [std, e0, e1, e5, k6]
              refine o_call rfl rfl hf rfl rfl ?_
              simp (config := sc) (disch := first | exact dd | fail) [std, e0, e1, e5, k6, h2, h3]
              refine o_call rfl rfl hh rfl rfl ?_
              simp (config := sc) (disch := first | exact dd | fail) [std, e0, e1, e5, k6, h2, h3, h0]
              exact nxt_of (i + 1) ⟨by omega, fun j hj => by
                by_cases e : j = i
                · subst e; exact hy
                · exact hn j (by omega), by simp (config := sc) (disch := first | exact dd | fail) [std, e0, e1]⟩ (by omega)
  · have k6 : ¬ (i : Int) < l.length := by omega
    have hr : namedS l many = true := named_all.2 fun j hj => hn j (by omega)
    simp (config := sc) (disch := first | exact dd | fail) [std, e0, e1, e5, k6, hr]

def rcI (l : List Ent) (i : Nat) (S : PS) : Prop :=
  i ≤ l.length ∧ S.t 4 = .d (.slice (l.map Ent.d)) ∧ S.t 5 = .d (.int .i64 i) ∧ S.t 3 = .d (.slice ((cameS (l.take i)).map intD)) ∧ S.own (.t 3 0) = true
theorem came_step {l : List Ent} {i : Nat} (h : i < l.length) : cameS (l.take (i + 1)) = if hasF (l.take i) l[i].file = true then cameS (l.take i) else cameS (l.take i) ++ [l[i].file] := by
  rw [List.take_succ_eq_append_getElem h, cameS_snoc]
  unfold addC
  have : (cameS (l.take i)).contains l[i].file = hasF (l.take i) l[i].file := by
    rw [Bool.eq_iff_iff, hasF_iff, List.contains_iff_mem, mem_came]
  rw [this]
theorem came_len (l : List Ent) : (cameS l).length ≤ l.length := by
  have := wasL_len [] l
  rw [wasL_came] at this
  simpa using this
theorem ref08Came (k : Dk) (hk : sizedK k) (hl : k.now.length + k.kept.length ≤ 100000) : Holds Tryz.prog 97 [.d k.d] (.d (.slice ((cameS (k.now ++ k.kept)).map intD))) (fun _ => false) := by
  refine Holds.by (by kernel_rfl) Tryz.func97 (by kernel_rfl) rfl [20001, 28] (by simp) (by kernel_rfl) (by kernel_rfl) rfl ?_
  conv in ccs _ => cbv
  have hab : k.now.map Ent.d ++ k.kept.map Ent.d = (k.now ++ k.kept).map Ent.d := List.map_append.symm
  obtain ⟨l, hll⟩ : ∃ l, l = k.now ++ k.kept := ⟨_, rfl⟩
  have hlen : l.length ≤ 100000 := by rw [hll]; simp; omega
  rw [← hll] at hab ⊢
  clear hll
  simp (config := sc) (disch := first | exact dd | fail) [std, -List.map_append, hab]
  refine lp (rcI l) (fun i => l.length - i) 0 ⟨by omega, by simp [cameS]⟩ ?_
  rintro i S ⟨hi, e4, e5, e3, o3⟩
  by_cases hlt : i < l.length
  · have k6 : (i : Int) < l.length := by omega
    have hh := ref08Has l i l[i].file (by omega) (by omega)
    have hst := came_step hlt
    have hcl := came_len (l.take i)
    rw [List.length_take] at hcl
    cases h : hasF (l.take i) l[i].file with
    | true =>
      rw [h] at hh
      rw [h, if_pos rfl] at hst
      simp (config := sc) (disch := first | exact dd | fail) [std, e3, e4, e5, k6]
      refine o_call rfl rfl hh rfl rfl ?_
      simp (config := sc) (disch := first | exact dd | fail) [std, e3, e4, e5, o3, k6]
      exact nxt_of (i + 1) ⟨by omega, by simp (config := sc) (disch := first | exact dd | fail) [*, std, hst]⟩ (by omega)
    | false =>
      rw [h] at hh
      rw [h, if_neg (by simp)] at hst
      simp (config := sc) (disch := first | exact dd | fail) [std, e3, e4, e5, k6]
      refine o_call rfl rfl hh rfl rfl ?_
      simp (config := sc) (disch := first | exact dd | fail) [std, e3, e4, e5, o3, k6]
      exact nxt_of (i + 1) ⟨by omega, by simp (config := sc) (disch := first | exact dd | fail) [*, std, hst, intD]⟩ (by omega)
  · have k6 : ¬ (i : Int) < l.length := by omega
    have : l.take i = l := List.take_of_length_le (by omega)
    simp (config := sc) (disch := first | exact dd | fail) [std, e3, e4, e5, o3, k6, this]

def rrF (k : Dk) (i : Nat) (S : PS) : Prop :=
  i ≤ k.files.length ∧ (k.files.take i).all fileOk = true ∧ S.t 1 = .cptr (cells k.d) ∧ S.t 3 = .d (.int .i64 i)
def rrC (k : Dk) (i : Nat) (S : PS) : Prop :=
  i ≤ (cameS (k.now ++ k.kept)).length ∧ (∀ j (h : j < (cameS (k.now ++ k.kept)).length), j < i → (cameS (k.now ++ k.kept))[j] = (j : Int)) ∧ S.t 1 = .cptr (cells k.d) ∧ S.t 4 = .d (.slice ((cameS (k.now ++ k.kept)).map intD)) ∧ S.t 5 = .d (.int .i64 i)
theorem ref08Right (k : Dk) (hk : sizedK k) (hl : k.now.length + k.kept.length ≤ 100000) : Holds Tryz.prog 74 [.d k.d] (.d (.bool (rightK k))) (fun _ => false) := by
  refine Holds.by (by kernel_rfl) Tryz.func74 (by kernel_rfl) rfl [20001] (by simp) (by kernel_rfl) (by kernel_rfl) rfl ?_
  conv in ccs _ => cbv
  have qc := ref08Came k hk hl
  obtain ⟨⟨hf1, hf2⟩, hn, hkp⟩ := hk
  have q1 := ref08Named k.now k.files.length hn hf1
  have q2 := ref08Named k.kept k.files.length hkp hf1
  by_cases hbig : (20 : Int) < k.files.length
  · have hr : rightK k = false := by
      have : ¬ k.files.length ≤ 20 := by omega
      simp [rightK, this]
    simp (config := sc) (disch := first | exact dd | fail) [std, hbig, hr]
  have hsm : k.files.length ≤ 20 := by omega
  cases h1 : namedS k.now k.files.length with
  | false =>
    have hr : rightK k = false := by simp [rightK, h1]
    rw [h1] at q1
    simp (config := sc) (disch := first | exact dd | fail) [std, hbig, hr]
    refine o_call rfl rfl q1 rfl rfl ?_
    simp (config := sc) (disch := first | exact dd | fail) [std, hbig, hr]
  | true =>
  rw [h1] at q1
  cases h2 : namedS k.kept k.files.length with
  | false =>
    have hr : rightK k = false := by simp [rightK, h2]
    rw [h2] at q2
    simp (config := sc) (disch := first | exact dd | fail) [std, hbig, hr]
    refine o_call rfl rfl q1 rfl rfl ?_
    simp (config := sc) (disch := first | exact dd | fail) [std, hbig, hr]
    refine o_call rfl rfl q2 rfl rfl ?_
    simp (config := sc) (disch := first | exact dd | fail) [std, hbig, hr]
  | true =>
  rw [h2] at q2
  have hrk : rightK k = (k.files.all fileOk && decide (cameS (k.now ++ k.kept) = upTo k.files.length)) := by
    simp [rightK, h1, h2, hsm]
  simp (config := sc) (disch := first | exact dd | fail) [std, hbig]
  refine o_call rfl rfl q1 rfl rfl ?_
  simp (config := sc) (disch := first | exact dd | fail) [std, hbig]
  refine o_call rfl rfl q2 rfl rfl ?_
  simp (config := sc) (disch := first | exact dd | fail) [std, hbig]
  refine lp (rrF k) (fun i => k.files.length - i) 0 ⟨by omega, by simp, by simp⟩ ?_
  rintro i S ⟨hi, ha, e1, e3⟩
  by_cases hlt : i < k.files.length
  · have k6 : (i : Int) < k.files.length := by omega
    have hz := hf2 _ (List.getElem_mem hlt)
    by_cases hc : fileOk k.files[i] = true
    · have hc' := hc
      simp only [fileOk, decide_eq_true_eq] at hc'
      obtain ⟨c1, c2, c3⟩ := hc'
      have k1 : ¬ (20000 : Int) < k.files[i].data.length := by omega
      have k2 : ¬ k.files[i].safe < 0 := by omega
      have k3 : ¬ (k.files[i].data.length : Int) < k.files[i].safe := by omega
      simp (config := sc) (disch := first | exact dd | fail) [std, e1, e3, k6, k1, k2, k3]
      exact nxt_of (i + 1) ⟨by omega, all_step hlt ha hc, by simp (config := sc) (disch := first | exact dd | fail) [std, e1]⟩ (by omega)
    · have hr : rightK k = false := by
        rw [hrk, Bool.and_eq_false_iff]
        left
        rw [Bool.eq_false_iff]
        intro h
        exact hc (List.all_eq_true.1 h _ (List.getElem_mem hlt))
      have hc' : ¬ (k.files[i].data.length ≤ 20000 ∧ 0 ≤ k.files[i].safe ∧ k.files[i].safe ≤ k.files[i].data.length) := by simpa [fileOk] using hc
      by_cases k1 : (20000 : Int) < k.files[i].data.length
      · simp (config := sc) (disch := first | exact dd | fail) [std, e1, e3, k6, k1, hr]
      · by_cases k2 : k.files[i].safe < 0
        · simp (config := sc) (disch := first | exact dd | fail) [std, e1, e3, k6, k1, k2, hr]
        · have k3 : (k.files[i].data.length : Int) < k.files[i].safe := by omega
          simp (config := sc) (disch := first | exact dd | fail) [std, e1, e3, k6, k1, k2, k3, hr]
  · have k6 : ¬ (i : Int) < k.files.length := by omega
    have hall : k.files.all fileOk = true := by
      rw [← List.take_of_length_le (show k.files.length ≤ i by omega)]
      exact ha
    rw [hall, Bool.true_and] at hrk
    simp (config := sc) (disch := first | exact dd | fail) [std, e1, e3, k6]
    refine o_call rfl rfl qc rfl rfl ?_
    simp (config := sc) (disch := first | exact dd | fail) [std, e1, e3]
    have hcl := came_len (k.now ++ k.kept)
    simp only [List.length_append] at hcl
    refine lp (rrC k) (fun i => (cameS (k.now ++ k.kept)).length - i) 0 ⟨by omega, by simp, by simp (config := sc) (disch := first | exact dd | fail) [std, e1], by simp, by simp⟩ ?_
    clear e1 e3 k6 hlt ha hi i S qc
    rintro i S ⟨hi, ha, e1, e4, e5⟩
    generalize hw : cameS (k.now ++ k.kept) = w at *
    by_cases hlt : i < w.length
    · have k6 : (i : Int) < w.length := by omega
      by_cases hc : w[i] = (i : Int)
      · simp (config := sc) (disch := first | exact dd | fail) [std, e1, e4, e5, k6, hc, intD]
        exact nxt_of (i + 1) ⟨by rw [hw]; omega, fun j h hj => by
          simp only [hw] at h ⊢
          by_cases e : j = i
          · subst e; exact hc
          · exact ha j h (by omega), by simp (config := sc) (disch := first | exact dd | fail) [std, e1], by simp (config := sc) (disch := first | exact dd | fail) [std, e4, hw], by simp⟩ (by omega)
      · have hr : rightK k = false := by
          rw [hrk, decide_eq_false_iff_not]
          intro e
          have h3 := congrArg (fun l : List Int => l[i]?) e
          simp only [List.getElem?_eq_getElem hlt] at h3
          have hlen := congrArg List.length e
          rw [upTo_len] at hlen
          rw [upTo_get (by omega)] at h3
          exact hc (Option.some.inj h3)
        simp (config := sc) (disch := first | exact dd | fail) [std, e1, e4, e5, k6, hc, intD, hr]
    · have k6 : ¬ (i : Int) < w.length := by omega
      have hwu : w = upTo w.length := by
        apply List.ext_getElem?
        intro j
        by_cases hj : j < w.length
        · rw [upTo_get hj, List.getElem?_eq_getElem hj, ha j hj (by omega)]
        · rw [List.getElem?_eq_none (by omega), List.getElem?_eq_none (by rw [upTo_len]; omega)]
      have hr : rightK k = decide ((w.length : Int) = k.files.length) := by
        rw [hrk, Bool.eq_iff_iff]
        simp only [decide_eq_true_eq]
        constructor
        · intro e
          have := congrArg List.length e
          rw [upTo_len] at this
          omega
        · intro e
          have e2 : w.length = k.files.length := by omega
          rw [← e2]
          exact hwu
      clear hwu hrk
      simp (config := sc) (disch := first | exact dd | fail) [std, e1, e4, e5, k6, hr]

theorem ref08Good (k : Dk) (hk : sizedK k) (hl : k.now.length + k.kept.length ≤ 100000) : Holds Tryz.prog 43 [.d k.d] (.d (goodK k).d) (fun _ => false) := by
  refine Holds.by (by kernel_rfl) Tryz.func43 (by kernel_rfl) rfl [20001] (by simp) (by kernel_rfl) (by kernel_rfl) rfl ?_
  conv in ccs _ => cbv
  have q := ref08Right k hk hl
  cases hr : rightK k with
  | true =>
    rw [hr] at q
    rw [good_id hr]
    simp (config := sc) (disch := first | exact dd | fail) [std]
    refine o_call rfl rfl q rfl rfl ?_
    simp (config := sc) (disch := first | exact dd | fail) [std, Dk.d]
  | false =>
    have hg : goodK k = dk0 := by simp [goodK, hr]
    rw [hr] at q
    rw [hg]
    simp (config := sc) (disch := first | exact dd | fail) [std]
    refine o_call rfl rfl q rfl rfl ?_
    simp (config := sc) (disch := first | exact dd | fail) [std, Dk.d, dk0]

end Go.Proofs.YtkbidfohcanijaaGreat
