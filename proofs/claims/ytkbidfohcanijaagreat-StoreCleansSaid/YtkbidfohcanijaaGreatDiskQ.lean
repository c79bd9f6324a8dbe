/- Disks: what the program's disk answers, second part: right disks. -/
import Derived.Test.YtkbidfohcanijaaGreatDiskP
namespace Go.Proofs.YtkbidfohcanijaaGreat
open BoEng Go
set_option maxRecDepth 100000
attribute [-simp] List.map_take List.map_drop List.length_flatMap
set_option linter.unusedSimpArgs false
set_option linter.unusedVariables false

theorem right_next {k : Dk} (h1 : namedS k.now k.files.length = true) (h2 : namedS k.kept k.files.length = true) : decide (cameS (k.now ++ k.kept) = upTo k.files.length) = decide (nextK 0 (k.now ++ k.kept) = some (k.files.length : Int)) := by
  rw [Bool.eq_iff_iff]
  simp only [decide_eq_true_eq]
  have hf : ∀ e ∈ k.now ++ k.kept, 0 ≤ e.file := by
    intro e he
    rcases List.mem_append.1 he with h | h
    · exact (named_in h1 e h).1
    · exact (named_in h2 e h).1
  rw [nextK_came _ hf]
  simp
theorem nextK_rng {m : Nat} : ∀ (l : List Ent), inK l m → ∀ n q : Int, 0 ≤ n → n ≤ m → nextK n l = some q → 0 ≤ q ∧ q ≤ m
  | [], _, n, q, h0, h1, h => by simp [nextK] at h; omega
  | e :: l, hl, n, q, h0, h1, h => by
    have he := hl e (by simp)
    simp only [nextK] at h
    split at h
    · cases h
    · exact nextK_rng l (fun x hx => hl x (by simp [hx])) _ q (by omega) (by omega) h

theorem all_step {α : Type} {p : α → Bool} {l : List α} {i : Nat} (h : i < l.length) (ha : (l.take i).all p = true) (hc : p l[i] = true) : (l.take (i + 1)).all p = true := by
  rw [List.take_succ_eq_append_getElem h, List.all_append, ha, Bool.true_and, List.all_cons, hc]
  rfl

def drF (k : Dk) (i : Nat) (S : PS) : Prop :=
  i ≤ k.files.length ∧ (k.files.take i).all fileOk = true ∧ S.t 1 = .cptr (cells k.d) ∧ S.t 33 = .d (.slice (k.files.map FileD.d)) ∧ S.t 34 = .d (.int .i64 k.files.length) ∧ S.t 35 = .d (.int .i64 i)
def lists (k : Dk) : List (List Ent) := [k.now, k.kept]
def drO (k : Dk) (j : Nat) (S : PS) : Prop :=
  j ≤ 2 ∧ S.t 1 = .cptr (cells k.d) ∧ S.t 61 = .d (.slice [.slice (k.now.map Ent.d), .slice (k.kept.map Ent.d)]) ∧ S.t 62 = .d (.int .i64 2) ∧ S.t 63 = .d (.int .i64 j) ∧
    ∃ n : Int, nextK 0 ((lists k).take j).flatten = some n ∧ S.t 5 = .d (.int .i64 n)
def drI (k : Dk) (j : Nat) (l : List Ent) (n0 : Int) (i : Nat) (S : PS) : Prop :=
  i ≤ l.length ∧ S.t 1 = .cptr (cells k.d) ∧ S.t 61 = .d (.slice [.slice (k.now.map Ent.d), .slice (k.kept.map Ent.d)]) ∧ S.t 62 = .d (.int .i64 2) ∧ S.t 63 = .d (.int .i64 j) ∧
    S.t 67 = .d (.slice (l.map Ent.d)) ∧ S.t 68 = .d (.int .i64 l.length) ∧ S.t 69 = .d (.int .i64 i) ∧ ∃ n : Int, nextK n0 (l.take i) = some n ∧ S.t 5 = .d (.int .i64 n)
theorem diskRight (k : Dk) (hk : sizedK k) : Holds Tryz.prog 59 [.d k.d] (.d (.bool (rightK k))) (fun _ => false) := by
  refine Holds.by (by kernel_rfl) Tryz.func59 (by kernel_rfl) rfl [20001] (by simp) (by kernel_rfl) (by kernel_rfl) rfl ?_
  conv in ccs _ => cbv
  obtain ⟨⟨hf1, hf2⟩, hn, hkp⟩ := hk
  have hn1 := hn.1
  have hk1 := hkp.1
  have q1 := diskNamed k.now k.files.length hn hf1
  have q2 := diskNamed k.kept k.files.length hkp hf1
  by_cases hbig : (20 : Int) < k.files.length
  · have hr : rightK k = false := by
      have : ¬ k.files.length ≤ 20 := by omega
      simp [rightK, this]
    simp (config := sc) (disch := first | exact dd | fail) [std, hbig, hr]
  have hsm : k.files.length ≤ 20 := by omega
  cases h1 : namedS k.now k.files.length with
  | false =>
    have hr : rightK k = false := by simp [rightK, h1]
    rw [h1] at q1
    simp (config := sc) (disch := first | exact dd | fail) [std, hbig, hr]
    refine o_call rfl rfl q1 rfl rfl ?_
    simp (config := sc) (disch := first | exact dd | fail) [std, hbig, hr]
  | true =>
  rw [h1] at q1
  cases h2 : namedS k.kept k.files.length with
  | false =>
    have hr : rightK k = false := by simp [rightK, h2]
    rw [h2] at q2
    simp (config := sc) (disch := first | exact dd | fail) [std, hbig, hr]
    refine o_call rfl rfl q1 rfl rfl ?_
    simp (config := sc) (disch := first | exact dd | fail) [std, hbig, hr]
    refine o_call rfl rfl q2 rfl rfl ?_
    simp (config := sc) (disch := first | exact dd | fail) [std, hbig, hr]
  | true =>
  rw [h2] at q2
  have hin1 := named_in h1
  have hin2 := named_in h2
  have hrk : rightK k = (k.files.all fileOk && decide (nextK 0 (k.now ++ k.kept) = some (k.files.length : Int))) := by
    rw [← right_next h1 h2]
    simp [rightK, h1, h2, hsm]
  simp (config := sc) (disch := first | exact dd | fail) [std, hbig]
  refine o_call rfl rfl q1 rfl rfl ?_
  simp (config := sc) (disch := first | exact dd | fail) [std, hbig]
  refine o_call rfl rfl q2 rfl rfl ?_
  simp (config := sc) (disch := first | exact dd | fail) [std, hbig]
  refine lp (drF k) (fun i => k.files.length - i) 0 ⟨by omega, by simp, by simp⟩ ?_
  rintro i S ⟨hi, ha, e1, e33, e34, e35⟩
  by_cases hlt : i < k.files.length
  · have k6 : (i : Int) < k.files.length := by omega
    have hz := hf2 _ (List.getElem_mem hlt)
    by_cases hc : fileOk k.files[i] = true
    · have hc' := hc
      simp only [fileOk, decide_eq_true_eq] at hc'
      obtain ⟨c1, c2, c3⟩ := hc'
      have k1 : ¬ (20000 : Int) < k.files[i].data.length := by omega
      have k2 : ¬ k.files[i].safe < 0 := by omega
      have k3 : ¬ (k.files[i].data.length : Int) < k.files[i].safe := by omega
      simp (config := sc) (disch := first | exact dd | fail) [std, e1, e33, e34, e35, k6, k1, k2, k3]
      exact nxt_of (i + 1) ⟨by omega, all_step hlt ha hc, by simp (config := sc) (disch := first | exact dd | fail) [std, e1, e33, e34, e35]⟩ (by omega)
    · have hr : rightK k = false := by
        rw [hrk, Bool.and_eq_false_iff]
        left
        rw [Bool.eq_false_iff]
        intro h
        exact hc (List.all_eq_true.1 h _ (List.getElem_mem hlt))
      have hc' : ¬ (k.files[i].data.length ≤ 20000 ∧ 0 ≤ k.files[i].safe ∧ k.files[i].safe ≤ k.files[i].data.length) := by simpa [fileOk] using hc
      by_cases k1 : (20000 : Int) < k.files[i].data.length
      · simp (config := sc) (disch := first | exact dd | fail) [std, e1, e33, e34, e35, k6, k1, hr]
      · by_cases k2 : k.files[i].safe < 0
        · simp (config := sc) (disch := first | exact dd | fail) [std, e1, e33, e34, e35, k6, k1, k2, hr]
        · have k3 : (k.files[i].data.length : Int) < k.files[i].safe := by omega
          simp (config := sc) (disch := first | exact dd | fail) [std, e1, e33, e34, e35, k6, k1, k2, k3, hr]
  · have k6 : ¬ (i : Int) < k.files.length := by omega
    have hall : k.files.all fileOk = true := by
      rw [← List.take_of_length_le (show k.files.length ≤ i by omega)]
      exact ha
    rw [hall, Bool.true_and] at hrk
    simp (config := sc) (disch := first | exact dd | fail) [std, e1, e33, e34, e35, k6]
    refine lp (drO k) (fun j => 2 - j) 0 ⟨by omega, by simp (config := sc) (disch := first | exact dd | fail) [std, e1], by simp, by simp, by simp, 0, by simp [nextK], by simp⟩ ?_
    clear e1 e33 e34 e35 k6 hlt ha hi i S
    rintro j S ⟨hj, e1, e61, e62, e63, n0, hn0, e5⟩
    by_cases hjl : j < 2
    · have k6 : (j : Int) < 2 := by omega
      have hjl' : j < (lists k).length := hjl
      have hinL : inK (lists k)[j] k.files.length ∧ (lists k)[j].length ≤ 100000 := by
        rcases (by omega : j = 0 ∨ j = 1) with rfl | rfl
        · exact ⟨hin1, hn1⟩
        · exact ⟨hin2, hk1⟩
      obtain ⟨hinL, hlL⟩ := hinL
      have hflat : ((lists k).take (j + 1)).flatten = ((lists k).take j).flatten ++ (lists k)[j] := by
        rw [List.take_succ_eq_append_getElem hjl', List.flatten_append]
        simp only [List.flatten_cons, List.flatten_nil, List.append_nil]
      have hrest : ∃ r, k.now ++ k.kept = (((lists k).take j).flatten ++ (lists k)[j]) ++ r := by
        rcases (by omega : j = 0 ∨ j = 1) with rfl | rfl
        · exact ⟨k.kept, by simp [lists]⟩
        · exact ⟨[], by simp [lists]⟩
      have hinA : inK ((lists k).take j).flatten k.files.length := by
        rcases (by omega : j = 0 ∨ j = 1) with rfl | rfl
        · intro e he; simp at he
        · simpa [lists] using hin1
      have hr0 := nextK_rng _ hinA 0 n0 (by omega) (by omega) hn0
      have hsl : ([.slice (k.now.map Ent.d), .slice (k.kept.map Ent.d)] : List DV)[j]? = some (.slice ((lists k)[j].map Ent.d)) := by
        rcases (by omega : j = 0 ∨ j = 1) with rfl | rfl <;> rfl
      generalize hL : (lists k)[j] = L at *
      simp (config := sc) (disch := first | exact dd | fail) [std, e1, e61, e62, e63, e5, k6]
      rw [indexAddrV_n, hsl]
      simp (config := sc) (disch := first | exact dd | fail) [std, e1, e61, e62, e63, e5, k6]
      refine lp (drI k j L n0) (fun i => L.length - i) 0 ⟨by omega, by simp (config := sc) (disch := first | exact dd | fail) [std, e1], by simp (config := sc) (disch := first | exact dd | fail) [std, e61], by simp (config := sc) (disch := first | exact dd | fail) [std, e62], by simp (config := sc) (disch := first | exact dd | fail) [std, e63], by simp, by simp, by simp, n0, by simp [nextK], by simp (config := sc) (disch := first | exact dd | fail) [std, e5]⟩ ?_
      clear e1 e61 e62 e63 e5 S
      rintro i S ⟨hi, e1, e61, e62, e63, e67, e68, e69, n, hn, e5⟩
      have hinT : inK (L.take i) k.files.length := fun e he => hinL e (List.mem_of_mem_take he)
      have hr := nextK_rng _ hinT n0 n hr0.1 hr0.2 hn
      by_cases hlt : i < L.length
      · have k7 : (i : Int) < L.length := by omega
        have hst := nextK_snoc n0 (L.take i) L[i]
        rw [hn, Option.bind_some, ← List.take_succ_eq_append_getElem hlt] at hst
        obtain ⟨f1, f2⟩ := hinL _ (List.getElem_mem hlt)
        by_cases hc : n < L[i].file
        · rw [if_pos hc] at hst
          have hr : rightK k = false := by
            rw [hrk, decide_eq_false_iff_not]
            obtain ⟨r, hr⟩ := hrest
            rw [hr, nextK_app, nextK_app, hn0, Option.bind_some]
            have : nextK n0 L = none := by
              rw [← List.take_append_drop (i + 1) L, nextK_app, hst]
              rfl
            rw [this]
            simp
          simp (config := sc) (disch := first | exact dd | fail) [std, e1, e61, e62, e63, e5, e67, e68, e69, k7, hc, hr]
        · rw [if_neg hc] at hst
          have hm : (if n < L[i].file + 1 then L[i].file + 1 else n) = max n (L[i].file + 1) := by split <;> omega
          simp (config := sc) (disch := first | exact dd | fail) [std, e1, e61, e62, e63, e5, e67, e68, e69, k7, hc]
          exact nxt_of (i + 1) ⟨by omega, by simp (config := sc) (disch := first | exact dd | fail) [std, e1], by simp (config := sc) (disch := first | exact dd | fail) [std, e61], by simp (config := sc) (disch := first | exact dd | fail) [std, e62], by simp (config := sc) (disch := first | exact dd | fail) [std, e63], by simp (config := sc) (disch := first | exact dd | fail) [std, e67], by simp (config := sc) (disch := first | exact dd | fail) [std, e68], by simp, _, hst, by simp (config := sc) (disch := first | exact dd | fail) [std, hm]⟩ (by omega)
      · have k7 : ¬ (i : Int) < L.length := by omega
        have ht : L.take i = L := List.take_of_length_le (by omega)
        rw [ht] at hn
        simp (config := sc) (disch := first | exact dd | fail) [std, e1, e61, e62, e63, e5, e67, e68, e69, k7]
        exact nxt_of (j + 1) ⟨by omega, by simp (config := sc) (disch := first | exact dd | fail) [std, e1], by simp (config := sc) (disch := first | exact dd | fail) [std, e61], by simp (config := sc) (disch := first | exact dd | fail) [std, e62], by simp, n, by rw [hflat, nextK_app, hn0, Option.bind_some]; exact hn, by simp (config := sc) (disch := first | exact dd | fail) [std, e5]⟩ (by omega)
    · have : j = 2 := by omega
      subst this
      have hflat : ((lists k).take 2).flatten = k.now ++ k.kept := by simp [lists]
      rw [hflat] at hn0
      have hr : rightK k = decide (n0 = (k.files.length : Int)) := by
        rw [hrk, hn0]
        simp
      simp (config := sc) (disch := first | exact dd | fail) [std, e1, e61, e62, e63, e5, hr]

end Go.Proofs.YtkbidfohcanijaaGreat
