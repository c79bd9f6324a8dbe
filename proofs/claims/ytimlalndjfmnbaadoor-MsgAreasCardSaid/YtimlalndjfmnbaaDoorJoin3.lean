/- Options that are joined with others: tlv.Join; the document's. -/
import Derived.Test.YtimlalndjfmnbaaDoorJoin2
namespace Go.Proofs.YtimlalndjfmnbaaDoor
open BoEng Go
set_option maxRecDepth 100000
attribute [-simp] List.map_take List.map_drop List.length_flatMap
set_option linter.unusedSimpArgs false
set_option linter.unusedVariables false

theorem fold_len : ∀ (xs out : List Opt), (xs.foldl joinS out).length ≤ out.length + xs.length
  | [], out => by simp
  | x :: xs, out => by
    have h1 := fold_len xs (joinS out x)
    have h2 := joinS_len out x
    simp only [List.foldl_cons, List.length_cons]
    omega
theorem fold_data : ∀ (xs out : List Opt) (m : Nat), (∀ x ∈ xs, x.data.length ≤ 600) → (∀ x ∈ out, x.data.length ≤ m) → ∀ x ∈ xs.foldl joinS out, x.data.length ≤ m + 600 * xs.length
  | [], out, m, _, h => by simpa using h
  | x :: xs, out, m, h1, h2 => by
    have h3 := joinS_data (o := x) h2
    have h4 := h1 x (by simp)
    intro y hy
    have := fold_data xs (joinS out x) (m + x.data.length) (fun z hz => h1 z (by simp [hz])) h3 y hy
    simp only [List.length_cons]
    omega
theorem fold_sized (xs : List Opt) (h : xs.length ≤ 120) (h2 : ∀ x ∈ xs, x.data.length ≤ 600) : sized (xs.foldl joinS []) := by
  have h3 := fold_len xs []
  have h4 := fold_data xs [] 0 h2 (by simp)
  refine ⟨by simp at h3; omega, fun o ho => ?_⟩
  have := h4 o ho
  omega
/-- Options joined with others, and the error. -/
def jnS (l m : List Opt) : Int × List Opt := if rightO l = true ∧ rightO m = true then (if rightO ((l ++ m).foldl joinS []) = true then (0, (l ++ m).foldl joinS []) else (3, [])) else (1, [])

def jpre (l m : List Opt) : Nat → List Opt
  | 0 => []
  | 1 => l
  | _ => l ++ m
theorem jpre0 {l m : List Opt} : jpre l m 0 = [] := rfl
theorem jpre1 {l m : List Opt} : jpre l m 1 = l := rfl
def joI (l m : List Opt) (q : Nat × Nat) (S : PS) : Prop :=
  q.1 ≤ 2 ∧ 0 < q.2 ∧ S.t 21 = .d (.slice [.slice (l.map Opt.d), .slice (m.map Opt.d)]) ∧ S.t 22 = .d (.int .i64 2) ∧ S.t 23 = .d (.int .i64 q.1) ∧ S.fo = FO ∧ S.t 6 = .bsl (FO + 6) q.2 ((jpre l m q.1).foldl joinS []).length 2 true ∧ S.gen (FO + 6) = q.2 ∧ S.box (FO + 6) = oBox ((jpre l m q.1).foldl joinS [])
def jiI (pre cur l m : List Opt) (j : Nat) (q : Nat × Nat) (S : PS) : Prop :=
  q.1 ≤ cur.length ∧ 0 < q.2 ∧ S.t 21 = .d (.slice [.slice (l.map Opt.d), .slice (m.map Opt.d)]) ∧ S.t 22 = .d (.int .i64 2) ∧ S.t 23 = .d (.int .i64 j) ∧ S.t 27 = .d (.slice (cur.map Opt.d)) ∧ S.t 28 = .d (.int .i64 cur.length) ∧ S.t 29 = .d (.int .i64 q.1) ∧ S.fo = FO ∧ S.t 6 = .bsl (FO + 6) q.2 ((pre ++ cur.take q.1).foldl joinS []).length 2 true ∧ S.gen (FO + 6) = q.2 ∧ S.box (FO + 6) = oBox ((pre ++ cur.take q.1).foldl joinS [])
theorem tlvJoin (l m : List Opt) (hl : sized l) (hm : sized m) : Holds Tryd.prog 73 [.d (.slice (l.map Opt.d)), .d (.slice (m.map Opt.d))] (.tup [.d (.slice ((jnS l m).2.map Opt.d)), .d (.int .i64 (jnS l m).1)]) (fun _ => false) := by
  refine Holds.by (by kernel_rfl) Tryd.func73 (by kernel_rfl) rfl [2006005, 40035, 40039] (by simp) (by kernel_rfl) (by kernel_rfl) rfl ?_
  conv in ccs _ => cbv
  have q1 := tlvRight l hl
  have q2 := tlvRight m hm
  cases hr1 : rightO l with
  | false =>
    have hz : jnS l m = (1, []) := by unfold jnS; rw [if_neg (by rw [hr1]; simp)]
    rw [hr1] at q1
    rw [hz]
    simp (config := sc) (disch := try exact dd) [std]
    refine oc q1 ?_
    simp (config := sc) (disch := try exact dd) [std]
  | true =>
  cases hr2 : rightO m with
  | false =>
    have hz : jnS l m = (1, []) := by unfold jnS; rw [if_neg (by rw [hr2]; simp)]
    rw [hr1] at q1
    rw [hr2] at q2
    rw [hz]
    simp (config := sc) (disch := try exact dd) [std]
    refine oc q1 ?_
    simp (config := sc) (disch := try exact dd) [std]
    refine oc q2 ?_
    simp (config := sc) (disch := try exact dd) [std]
  | true =>
  have hl60 := right_small hr1
  have hm60 := right_small hr2
  rw [hr1] at q1
  rw [hr2] at q2
  simp (config := sc) (disch := try exact dd) [std]
  refine oc q1 ?_
  simp (config := sc) (disch := try exact dd) [std]
  refine oc q2 ?_
  simp (config := sc) (disch := try exact dd) [std]
  refine lp (joI l m) (fun q => 2 - q.1) (0, 1) ⟨by decide, by (show 0 < 1); decide, by simp (config := sc) (disch := try exact dd) [std], by simp (config := sc) (disch := try exact dd) [std], by simp (config := sc) (disch := try exact dd) [std], by simp (config := sc) (disch := try exact dd) [std], by simp (config := sc) (disch := try exact dd) [std, jpre0], by simp (config := sc) (disch := try exact dd) [std], by simp (config := sc) (disch := try exact dd) [std, jpre0, oBox_nil]⟩ ?_
  rintro ⟨j, g⟩ S ⟨hj, hg, e21, e22, e23, efo, e6, g6, b6⟩
  dsimp only at hj hg e21 e22 e23 e6 g6 b6
  have hj3 : j = 0 ∨ j = 1 ∨ j = 2 := by omega
  rcases hj3 with rfl | rfl | rfl
  · have hcur : l.length ≤ 60 := hl60.1
    have hn0 : (0 : Int) < 2 := by decide
    simp (config := sc) (disch := try exact dd) [std, e21, e22, e23, e6, efo, g6, b6]
    refine lp (jiI [] l l m 0) (fun q => l.length - q.1) (0, g) ⟨by omega, hg, by simp (config := sc) (disch := try exact dd) [std, e21], by simp (config := sc) (disch := try exact dd) [std, e22], by simp (config := sc) (disch := try exact dd) [std, e23], by simp (config := sc) (disch := try exact dd) [std], by simp (config := sc) (disch := try exact dd) [std], by simp (config := sc) (disch := try exact dd) [std], by simp (config := sc) (disch := try exact dd) [std, efo], by simp (config := sc) (disch := try exact dd) [std, e6, jpre0, jpre1], by simp (config := sc) (disch := try exact dd) [std, efo, g6], by simp (config := sc) (disch := try exact dd) [std, efo, b6, jpre0, jpre1]⟩ ?_
    rintro ⟨i, g⟩ S ⟨hi, hg, e21, e22, e23, e27, e28, e29, efo, e6, g6, b6⟩
    dsimp only at hi hg e21 e22 e23 e27 e28 e29 e6 g6 b6
    by_cases hlt : i < l.length
    · have k6 : (i : Int) < l.length := by omega
      have hnt : nth l (i : Int) = l[i] := nth_nat hlt
      have hmem := hl60.2 l[i] (List.getElem_mem hlt)
      have hst : ([] ++ l.take (i + 1)).foldl joinS [] = joinS (([] ++ l.take i).foldl joinS []) l[i] := by
        rw [List.take_succ_eq_append_getElem hlt, ← List.append_assoc, List.foldl_append]; rfl
      have hz := fold_sized ([] ++ l.take i) (by have := hl60.1; simp only [List.length_append, List.length_take, List.length_nil]; omega) (fun x hx => by
        rcases List.mem_append.1 hx with h | h
        · simp at h
        · exact hl60.2 x (List.mem_of_mem_take h))
      have hg2 := joinG_pos (l := ([] ++ l.take i).foldl joinS []) (c := l[i].code) hg
      generalize ([] ++ l.take i).foldl joinS [] = out at *
      generalize l[i] = o at *
      have q := fun gl => tlvjoin out o (FO + 6) g (fo := FO + 1000) (gl := gl) hz (by omega) (by omega) hg
      generalize joinG out o.code g = g2 at *
      simp (config := sc) (disch := try exact dd) [std, e21, e22, e23, e27, e28, e29, efo, e6, g6, b6, k6, hnt]
      refine o_cb (FO + 1000) rfl rfl (q _) rfl (by simp (config := sc) (disch := try exact dd) [std, oU, efo, g6, b6, hg]) ?_
      simp (config := sc) (disch := try exact dd) [std, oU, e21, e22, e23, e27, e28, e29, efo, e6, g6, b6]
      exact nxt_of (i + 1, g2) ⟨by dsimp only; omega, hg2, by simp (config := sc) (disch := try exact dd) [std, e21], by simp (config := sc) (disch := try exact dd) [std, e22], by simp (config := sc) (disch := try exact dd) [std, e23], by simp (config := sc) (disch := try exact dd) [std, e27], by simp (config := sc) (disch := try exact dd) [std, e28], by simp (config := sc) (disch := try exact dd) [std], by simp (config := sc) (disch := try exact dd) [std, efo], by dsimp only; rw [hst]; simp (config := sc) (disch := try exact dd) [std], by simp (config := sc) (disch := try exact dd) [std, efo], by dsimp only; rw [hst]; simp (config := sc) (disch := try exact dd) [std, efo]⟩ (by dsimp only; omega)
    · have k6 : ¬ (i : Int) < l.length := by omega
      have ht : l.take i = l := List.take_of_length_le (by omega)
      rw [ht] at e6 b6
      simp (config := sc) (disch := try exact dd) [std, e21, e22, e23, e27, e28, e29, efo, e6, g6, b6, k6]
      exact nxt_of (0 + 1, g) ⟨by dsimp only; omega, hg, by simp (config := sc) (disch := try exact dd) [std, e21], by simp (config := sc) (disch := try exact dd) [std, e22], by simp (config := sc) (disch := try exact dd) [std], by simp (config := sc) (disch := try exact dd) [std, efo], by simp (config := sc) (disch := try exact dd) [std, e6, jpre], by simp (config := sc) (disch := try exact dd) [std, efo, g6], by simp (config := sc) (disch := try exact dd) [std, efo, b6, jpre]⟩ (by dsimp only; omega)
  · have hcur : m.length ≤ 60 := hm60.1
    have hn1 : (1 : Int) < 2 := by decide
    simp (config := sc) (disch := try exact dd) [std, e21, e22, e23, e6, efo, g6, b6]
    refine lp (jiI l m l m 1) (fun q => m.length - q.1) (0, g) ⟨by omega, hg, by simp (config := sc) (disch := try exact dd) [std, e21], by simp (config := sc) (disch := try exact dd) [std, e22], by simp (config := sc) (disch := try exact dd) [std, e23], by simp (config := sc) (disch := try exact dd) [std], by simp (config := sc) (disch := try exact dd) [std], by simp (config := sc) (disch := try exact dd) [std], by simp (config := sc) (disch := try exact dd) [std, efo], by simp (config := sc) (disch := try exact dd) [std, e6, jpre0, jpre1], by simp (config := sc) (disch := try exact dd) [std, efo, g6], by simp (config := sc) (disch := try exact dd) [std, efo, b6, jpre0, jpre1]⟩ ?_
    rintro ⟨i, g⟩ S ⟨hi, hg, e21, e22, e23, e27, e28, e29, efo, e6, g6, b6⟩
    dsimp only at hi hg e21 e22 e23 e27 e28 e29 e6 g6 b6
    by_cases hlt : i < m.length
    · have k6 : (i : Int) < m.length := by omega
      have hnt : nth m (i : Int) = m[i] := nth_nat hlt
      have hmem := hm60.2 m[i] (List.getElem_mem hlt)
      have hst : (l ++ m.take (i + 1)).foldl joinS [] = joinS ((l ++ m.take i).foldl joinS []) m[i] := by
        rw [List.take_succ_eq_append_getElem hlt, ← List.append_assoc, List.foldl_append]; rfl
      have hz := fold_sized (l ++ m.take i) (by have := hl60.1; simp only [List.length_append, List.length_take, List.length_nil]; omega) (fun x hx => by
        rcases List.mem_append.1 hx with h | h
        · exact hl60.2 x h
        · exact hm60.2 x (List.mem_of_mem_take h))
      have hg2 := joinG_pos (l := (l ++ m.take i).foldl joinS []) (c := m[i].code) hg
      generalize (l ++ m.take i).foldl joinS [] = out at *
      generalize m[i] = o at *
      have q := fun gl => tlvjoin out o (FO + 6) g (fo := FO + 1000) (gl := gl) hz (by omega) (by omega) hg
      generalize joinG out o.code g = g2 at *
      simp (config := sc) (disch := try exact dd) [std, e21, e22, e23, e27, e28, e29, efo, e6, g6, b6, k6, hnt]
      refine o_cb (FO + 1000) rfl rfl (q _) rfl (by simp (config := sc) (disch := try exact dd) [std, oU, efo, g6, b6, hg]) ?_
      simp (config := sc) (disch := try exact dd) [std, oU, e21, e22, e23, e27, e28, e29, efo, e6, g6, b6]
      exact nxt_of (i + 1, g2) ⟨by dsimp only; omega, hg2, by simp (config := sc) (disch := try exact dd) [std, e21], by simp (config := sc) (disch := try exact dd) [std, e22], by simp (config := sc) (disch := try exact dd) [std, e23], by simp (config := sc) (disch := try exact dd) [std, e27], by simp (config := sc) (disch := try exact dd) [std, e28], by simp (config := sc) (disch := try exact dd) [std], by simp (config := sc) (disch := try exact dd) [std, efo], by dsimp only; rw [hst]; simp (config := sc) (disch := try exact dd) [std], by simp (config := sc) (disch := try exact dd) [std, efo], by dsimp only; rw [hst]; simp (config := sc) (disch := try exact dd) [std, efo]⟩ (by dsimp only; omega)
    · have k6 : ¬ (i : Int) < m.length := by omega
      have ht : m.take i = m := List.take_of_length_le (by omega)
      rw [ht] at e6 b6
      simp (config := sc) (disch := try exact dd) [std, e21, e22, e23, e27, e28, e29, efo, e6, g6, b6, k6]
      exact nxt_of (1 + 1, g) ⟨by dsimp only; omega, hg, by simp (config := sc) (disch := try exact dd) [std, e21], by simp (config := sc) (disch := try exact dd) [std, e22], by simp (config := sc) (disch := try exact dd) [std], by simp (config := sc) (disch := try exact dd) [std, efo], by simp (config := sc) (disch := try exact dd) [std, e6, jpre], by simp (config := sc) (disch := try exact dd) [std, efo, g6], by simp (config := sc) (disch := try exact dd) [std, efo, b6, jpre]⟩ (by dsimp only; omega)
  · have hz : sized ((l ++ m).foldl joinS []) := fold_sized _ (by have := hl60.1; have := hm60.1; simp only [List.length_append]; omega) (fun x hx => by
      rcases List.mem_append.1 hx with h | h
      · exact hl60.2 x h
      · exact hm60.2 x h)
    have hjn : jnS l m = if rightO ((l ++ m).foldl joinS []) = true then (0, (l ++ m).foldl joinS []) else (3, []) := by unfold jnS; rw [if_pos ⟨hr1, hr2⟩]
    have hp2 : jpre l m 2 = l ++ m := rfl
    rw [hp2] at e6 b6
    rw [hjn]
    generalize (l ++ m).foldl joinS [] = out at *
    have hth := oBox_thaw (xs := out) rfl
    have qR := fun gl => tlvRightB out (FO + 6) g (fo := FO + 1000) (gl := gl) hz (by omega) hg
    cases hr3 : rightO out with
    | true =>
      rw [hr3] at qR
      rw [if_pos rfl]
      simp (config := sc) (disch := try exact dd) [std, e21, e22, e23, efo, e6, g6, b6]
      refine o_cb (FO + 1000) rfl rfl (qR _) rfl (by simp (config := sc) (disch := try exact dd) [std, oU, efo, g6, b6, hg]) ?_
      simp (config := sc) (disch := try exact dd) [std, oU, e6, efo, g6, b6, thawB, hth]
      done
    | false =>
      rw [hr3] at qR
      rw [if_neg (by decide)]
      simp (config := sc) (disch := try exact dd) [std, e21, e22, e23, efo, e6, g6, b6]
      refine o_cb (FO + 1000) rfl rfl (qR _) rfl (by simp (config := sc) (disch := try exact dd) [std, oU, efo, g6, b6, hg]) ?_
      simp (config := sc) (disch := try exact dd) [std, oU, e6, efo, g6, b6]
      done
end Go.Proofs.YtimlalndjfmnbaaDoor
