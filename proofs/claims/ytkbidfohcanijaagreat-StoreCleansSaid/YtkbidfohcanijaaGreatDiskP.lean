/- Disks: what the program's disk answers, first part: names. -/
import Derived.Test.YtkbidfohcanijaaGreatDiskS
namespace Go.Proofs.YtkbidfohcanijaaGreat
open BoEng Go
set_option maxRecDepth 100000
attribute [-simp] List.map_take List.map_drop List.length_flatMap
set_option linter.unusedSimpArgs false
set_option linter.unusedVariables false

theorem diskFair (n : List UInt8) (hn : n.length ≤ 9223372036854775807) : Holds Tryz.prog 103 [.d (.str n)] (.d (.bool (fairN n))) (fun _ => false) := by
  refine Holds.by (by kernel_rfl) Tryz.func103 (by kernel_rfl) rfl [] (by simp) (by kernel_rfl) (by kernel_rfl) rfl ?_
  conv in ccs _ => cbv
  by_cases h1 : (1 : Int) ≤ n.length
  · have hf : fairN n = decide ((n.length : Int) ≤ 16) := by
      rw [Bool.eq_iff_iff]
      simp only [fairN, decide_eq_true_eq]
      omega
    simp (config := sc) (disch := first | exact dd | fail) [std, hf, h1]
  · have hf : fairN n = false := by
      rw [Bool.eq_false_iff]
      simp only [fairN, ne_eq, decide_eq_true_eq]
      omega
    simp (config := sc) (disch := first | exact dd | fail) [std, hf, h1]

def datI (l : List Ent) (name : List UInt8) (i : Nat) (S : PS) : Prop :=
  i ≤ l.length ∧ (∀ j (h : j < l.length), j < i → strLt l[j].name name = true) ∧ S.t 0 = .d (.slice (l.map Ent.d)) ∧ S.t 1 = .d (.str name) ∧ S.t 6 = .d (.int .i64 i)
theorem diskAt (l : List Ent) (name : List UInt8) (hl : l.length ≤ 9223372036854775807) : Holds Tryz.prog 82 [.d (.slice (l.map Ent.d)), .d (.str name)] (.tup [.d (.int .i64 (atK l name)), .d (.bool (foundK l name))]) (fun _ => false) := by
  refine Holds.by (by kernel_rfl) Tryz.func82 (by kernel_rfl) rfl [] (by simp) (by kernel_rfl) (by kernel_rfl) rfl ?_
  conv in ccs _ => cbv
  simp (config := sc) (disch := first | exact dd | fail) [std]
  refine lp (datI l name) (fun i => l.length - i) 0 ⟨by omega, by simp, by simp⟩ ?_
  rintro i S ⟨hi, hn, e0, e1, e6⟩
  by_cases hlt : i < l.length
  · have k6 : (i : Int) < l.length := by omega
    cases hc : strLt l[i].name name with
    | true =>
      simp (config := sc) (disch := first | exact dd | fail) [std, e0, e1, e6, k6, hc]
      exact nxt_of (i + 1) ⟨by omega, fun j h hj => by
        by_cases e : j = i
        · subst e; exact hc
        · exact hn j h (by omega), by simp (config := sc) (disch := first | exact dd | fail) [std, e0, e1, e6]⟩ (by omega)
    | false =>
      have ha : atK l name = i := atK_eq (by omega) hn (fun _ => hc)
      have hfo : foundK l name = decide (l[i].name = name) := by
        simp [foundK, ha, hlt, List.getD_eq_getElem?_getD]
      simp (config := sc) (disch := first | exact dd | fail) [std, e0, e1, e6, k6, hc, ha, hfo]
  · have k6 : ¬ (i : Int) < l.length := by omega
    have ha : atK l name = i := atK_eq (by omega) hn (fun h => by omega)
    have hfo : foundK l name = false := by simp [foundK, ha, hlt]
    simp (config := sc) (disch := first | exact dd | fail) [std, e0, e1, e6, k6, ha, hfo]

theorem diskPut (l : List Ent) (name : List UInt8) (x : Int) (hl : l.length ≤ 100000) : Holds Tryz.prog 109 [.d (.slice (l.map Ent.d)), .d (.str name), .d (.int .i64 x)] (.d (.slice ((putK l name x).map Ent.d))) (fun _ => false) := by
  refine Holds.by (by kernel_rfl) Tryz.func109 (by kernel_rfl) rfl [9] (by simp) (by kernel_rfl) (by kernel_rfl) rfl ?_
  conv in ccs _ => cbv
  have ha := atK_le l name
  simp (config := sc) (disch := first | exact dd | fail) [std]
  refine o_call rfl rfl (diskAt l name (by omega)) rfl rfl ?_
  simp (config := sc) (disch := first | exact dd | fail) [std, putK, Ent.d]

def ddI (l : List Ent) (name : List UInt8) (i : Nat) (S : PS) : Prop :=
  i ≤ l.length ∧ S.t 1 = .d (.str name) ∧ S.t 8 = .d (.slice (l.map Ent.d)) ∧ S.t 9 = .d (.int .i64 l.length) ∧ S.t 10 = .d (.int .i64 i) ∧ S.t 5 = .d (.slice ((dropK (l.take i) name).map Ent.d)) ∧ S.own (.t 5 0) = true
theorem diskDrop (l : List Ent) (name : List UInt8) (hl : l.length ≤ 100000) : Holds Tryz.prog 83 [.d (.slice (l.map Ent.d)), .d (.str name)] (.d (.slice ((dropK l name).map Ent.d))) (fun _ => false) := by
  refine Holds.by (by kernel_rfl) Tryz.func83 (by kernel_rfl) rfl [18] (by simp) (by kernel_rfl) (by kernel_rfl) rfl ?_
  conv in ccs _ => cbv
  simp (config := sc) (disch := first | exact dd | fail) [std]
  refine lp (ddI l name) (fun i => l.length - i) 0 ⟨by omega, by simp [dropK]⟩ ?_
  rintro i S ⟨hi, e1, e8, e9, e10, e5, o5⟩
  by_cases hlt : i < l.length
  · have k6 : (i : Int) < l.length := by omega
    have ht : dropK (l.take (i + 1)) name = dropK (l.take i) name ++ (if l[i].name = name then [] else [l[i]]) := by
      unfold dropK
      rw [List.take_succ_eq_append_getElem hlt, List.filter_append]
      congr 1
      by_cases e : l[i].name = name <;> simp [e]
    have hle : (dropK (l.take i) name).length ≤ 100000 := by
      have := List.length_filter_le (fun e : Ent => decide (e.name ≠ name)) (l.take i)
      simp only [List.length_take] at this
      unfold dropK
      omega
    by_cases hc : l[i].name = name
    · rw [if_pos hc, List.append_nil] at ht
      simp (config := sc) (disch := first | exact dd | fail) [std, e1, e5, e8, e9, e10, o5, k6, hc]
      exact nxt_of (i + 1) ⟨by omega, by simp (config := sc) (disch := first | exact dd | fail) [*, std, ht]⟩ (by omega)
    · rw [if_neg hc] at ht
      simp (config := sc) (disch := first | exact dd | fail) [std, e1, e5, e8, e9, e10, o5, k6, hc]
      exact nxt_of (i + 1) ⟨by omega, by simp (config := sc) (disch := first | exact dd | fail) [*, std, ht, Ent.d]⟩ (by omega)
  · have k6 : ¬ (i : Int) < l.length := by omega
    have : l.take i = l := List.take_of_length_le (by omega)
    simp (config := sc) (disch := first | exact dd | fail) [std, e1, e5, e8, e9, e10, o5, k6, this]

/-- Which files have been seen. -/
def seenB (l : List Ent) (many : Nat) : List PV := (List.range many).map fun (k : Nat) => .d (.bool (hasF l (k : Int)))
theorem seenB_len (l : List Ent) (many : Nat) : (seenB l many).length = many := by simp [seenB]
theorem seenB_get {l : List Ent} {many : Nat} {x : Int} (h0 : 0 ≤ x) (h1 : x < many) : (seenB l many)[x.toNat]? = some (.d (.bool (hasF l x))) := by
  have : x.toNat < many := by omega
  simp only [seenB, List.getElem?_map, List.getElem?_range this, Option.map_some]
  rw [Int.toNat_of_nonneg h0]
theorem seenB_set {l : List Ent} {many : Nat} {i : Nat} (hi : i < l.length) (h0 : 0 ≤ l[i].file) (h1 : l[i].file < many) : over (seenB (l.take i) many) l[i].file.toNat [.d (.bool true)] = seenB (l.take (i + 1)) many := by
  unfold over
  apply List.ext_getElem?
  intro k
  have hx : l[i].file.toNat < many := by omega
  have hlen := seenB_len (l.take i) many
  by_cases hk : k < many
  · have hr : (seenB (l.take (i + 1)) many)[k]? = some (.d (.bool (hasF (l.take (i + 1)) (k : Int)))) := by
      have := seenB_get (l := l.take (i + 1)) (many := many) (x := (k : Int)) (by omega) (by omega)
      simpa using this
    have hl : (seenB (l.take i) many)[k]? = some (.d (.bool (hasF (l.take i) (k : Int)))) := by
      have := seenB_get (l := l.take i) (many := many) (x := (k : Int)) (by omega) (by omega)
      simpa using this
    rw [hr, hasF_take hi]
    rcases Nat.lt_trichotomy k l[i].file.toNat with h | h | h
    · rw [List.append_assoc, List.getElem?_append_left (by simp; omega), List.getElem?_take, if_pos h, hl]
      have : ¬ l[i].file = (k : Int) := by omega
      simp [this]
    · rw [List.append_assoc, List.getElem?_append_right (by simp; omega)]
      have e : k - ((seenB (l.take i) many).take l[i].file.toNat).length = 0 := by simp [hlen]; omega
      rw [e]
      have : l[i].file = (k : Int) := by omega
      simp [this]
    · rw [List.getElem?_append_right (by simp; omega), List.getElem?_drop]
      have e : l[i].file.toNat + [PV.d (.bool true)].length + (k - ((seenB (l.take i) many).take l[i].file.toNat ++ [PV.d (.bool true)]).length) = k := by simp [hlen]; omega
      rw [e, hl]
      have : ¬ l[i].file = (k : Int) := by omega
      simp [this]
  · rw [List.getElem?_eq_none (by simp [hlen]; omega), List.getElem?_eq_none (by rw [seenB_len]; omega)]
def dnI (l : List Ent) (many : Nat) (i : Nat) (S : PS) : Prop :=
  i ≤ l.length ∧ (∀ j, j < i → nmAt l many j = true) ∧ S.t 0 = .d (.slice (l.map Ent.d)) ∧ S.t 1 = .d (.int .i64 many) ∧ S.t 5 = .bsl (FO + 9) 1 many 1 false ∧ S.t 10 = .d (.slice (l.map Ent.d)) ∧ S.t 11 = .d (.int .i64 l.length) ∧ S.t 12 = .d (.int .i64 i) ∧
    S.fo = FO ∧ S.gen (FO + 9) = 1 ∧ S.box (FO + 9) = seenB (l.take i) many
theorem diskNamed (l : List Ent) (many : Nat) (hl : sizedE l) (hm : many ≤ 100000) : Holds Tryz.prog 86 [.d (.slice (l.map Ent.d)), .d (.int .i64 many)] (.d (.bool (namedS l many))) (fun _ => false) := by
  refine Holds.by (by kernel_rfl) Tryz.func86 (by kernel_rfl) rfl [60007, 90018, 90032, 90038, 90043, 90050, 90056] (by simp) (by kernel_rfl) (by kernel_rfl) rfl ?_
  conv in ccs _ => cbv
  simp (config := sc) (disch := first | exact dd | fail) [std]
  rw [o_mk (n := many) (z := .bool false) (by simp) (by simp; omega)]
  simp (config := sc) (disch := first | exact dd | fail) [std]
  refine lp (dnI l many) (fun i => l.length - i) 0 ⟨by omega, by simp, by simp [seenB, hasF, List.map_const']⟩ ?_
  rintro i S ⟨hi, hn, e0, e1, e5, e10, e11, e12, efo, g9, b9⟩
  by_cases hlt : i < l.length
  · have k6 : (i : Int) < l.length := by omega
    have hsl := seenB_len (l.take i) many
    have hll := hl.1
    have hlb : (S.box (FO + 9)).length = many := by rw [b9]; exact hsl
    have hf := diskFair l[i].name (hl.2 _ (List.getElem_mem hlt))
    have hng := nmAt_get (l := l) (many := many) hlt
    cases h1 : fairN l[i].name with
    | false =>
      have hr := named_no hlt (hng.trans (by simp [h1]))
      rw [h1] at hf
      simp (config := sc) (disch := first | exact dd | fail) [std, e0, e1, e5, e10, e11, e12, efo, g9, b9, k6, hr]
      refine o_call rfl rfl hf rfl rfl ?_
      simp (config := sc) (disch := first | exact dd | fail) [std, e0, e1, e5, e10, e11, e12, efo, g9, b9, k6, hr]
    | true =>
      rw [h1] at hf
      by_cases h0 : (0 : Int) < i
      · have hp : i - 1 < l.length := by omega
        have hpi : (i : Int) - 1 = ((i - 1 : Nat) : Int) := by omega
        have hi0 : ¬ i = 0 := by omega
        rw [List.getD_eq_getElem?_getD, List.getElem?_eq_getElem hp, Option.getD_some] at hng
        cases h6 : strLt l[i - 1].name l[i].name with
        | false =>
          have hr := named_no hlt (hng.trans (by simp [h6, hi0]))
          simp (config := sc) (disch := first | exact dd | fail) [std, e0, e1, e5, e10, e11, e12, efo, g9, b9, k6, hr]
          refine o_call rfl rfl hf rfl rfl ?_
          simp (config := sc) (disch := first | exact dd | fail) [std, e0, e1, e5, e10, e11, e12, efo, g9, b9, k6, hr, h0, hpi, hp, h6]
        | true =>
          by_cases h2 : 0 ≤ l[i].file
          · by_cases h3 : l[i].file < many
            · have hseen := seenB_get (l := l.take i) h2 h3
              have hset : (seenB (l.take i) many).take l[i].file.toNat ++ .d (.bool true) :: (seenB (l.take i) many).drop (l[i].file.toNat + 1) = seenB (l.take (i + 1)) many := by
                have := seenB_set hlt h2 h3
                simpa [over] using this
              cases h4 : hasF (l.take i) l[i].file with
              | true =>
                have hr := named_no hlt (hng.trans (by simp [h4]))
                rw [h4] at hseen
                obtain ⟨hsq, hse⟩ := List.getElem?_eq_some_iff.1 hseen
                simp (config := sc) (disch := first | exact dd | fail) [std, e0, e1, e5, e10, e11, e12, efo, g9, b9, k6, hr]
                refine o_call rfl rfl hf rfl rfl ?_
                simp (config := sc) (disch := first | exact dd | fail) [std, e0, e1, e5, e10, e11, e12, efo, g9, b9, k6, hr, h0, hpi, hp, h6, h2, h3, hse, hsl]
              | false =>
                rw [h4] at hseen
                obtain ⟨hsq, hse⟩ := List.getElem?_eq_some_iff.1 hseen
                have hy : nmAt l many i = true := hng.trans (by simp [h1, h2, h3, h4, h6])
                simp (config := sc) (disch := first | exact dd | fail) [std, e0, e1, e5, e10, e11, e12, efo, g9, b9, k6]
                refine o_call rfl rfl hf rfl rfl ?_
                simp (config := sc) (disch := first | exact dd | fail) [std, e0, e1, e5, e10, e11, e12, efo, g9, b9, k6, h0, hpi, hp, h6, h2, h3, hse, hsl, hset]
                exact nxt_of (i + 1) ⟨by omega, fun j hj => by
                  by_cases e : j = i
                  · subst e; exact hy
                  · exact hn j (by omega), by simp (config := sc) (disch := first | exact dd | fail) [std, e0, e1, e5, e10, e11, e12, efo, g9, b9, k6, hset]⟩ (by omega)
            · have hr := named_no hlt (hng.trans (by simp [h3]))
              simp (config := sc) (disch := first | exact dd | fail) [std, e0, e1, e5, e10, e11, e12, efo, g9, b9, k6, hr]
              refine o_call rfl rfl hf rfl rfl ?_
              simp (config := sc) (disch := first | exact dd | fail) [std, e0, e1, e5, e10, e11, e12, efo, g9, b9, k6, hr, h0, hpi, hp, h6, h2, h3]
          · have hr := named_no hlt (hng.trans (by simp [h2]))
            simp (config := sc) (disch := first | exact dd | fail) [std, e0, e1, e5, e10, e11, e12, efo, g9, b9, k6, hr]
            refine o_call rfl rfl hf rfl rfl ?_
            simp (config := sc) (disch := first | exact dd | fail) [std, e0, e1, e5, e10, e11, e12, efo, g9, b9, k6, hr, h0, hpi, hp, h6, h2]
      · by_cases h2 : 0 ≤ l[i].file
        · by_cases h3 : l[i].file < many
          · have hseen := seenB_get (l := l.take i) h2 h3
            have hset : (seenB (l.take i) many).take l[i].file.toNat ++ .d (.bool true) :: (seenB (l.take i) many).drop (l[i].file.toNat + 1) = seenB (l.take (i + 1)) many := by
              have := seenB_set hlt h2 h3
              simpa [over] using this
            cases h4 : hasF (l.take i) l[i].file with
            | true =>
              have hr := named_no hlt (hng.trans (by simp [h4]))
              rw [h4] at hseen
              obtain ⟨hsq, hse⟩ := List.getElem?_eq_some_iff.1 hseen
              simp (config := sc) (disch := first | exact dd | fail) [std, e0, e1, e5, e10, e11, e12, efo, g9, b9, k6, hr]
              refine o_call rfl rfl hf rfl rfl ?_
              simp (config := sc) (disch := first | exact dd | fail) [std, e0, e1, e5, e10, e11, e12, efo, g9, b9, k6, hr, h0, h2, h3, hse, hsl]
            | false =>
              rw [h4] at hseen
              obtain ⟨hsq, hse⟩ := List.getElem?_eq_some_iff.1 hseen
              have hy : nmAt l many i = true := by
                rw [hng, h1, h4]
                simp only [h2, h3, and_self, decide_true, Bool.true_and, Bool.not_false, Bool.or_eq_true, decide_eq_true_eq]
                exact .inl (by omega)
              simp (config := sc) (disch := first | exact dd | fail) [std, e0, e1, e5, e10, e11, e12, efo, g9, b9, k6]
              refine o_call rfl rfl hf rfl rfl ?_
              simp (config := sc) (disch := first | exact dd | fail) [std, e0, e1, e5, e10, e11, e12, efo, g9, b9, k6, h0, h2, h3, hse, hsl, hset]
              exact nxt_of (i + 1) ⟨by omega, fun j hj => by
                by_cases e : j = i
                · subst e; exact hy
                · exact hn j (by omega), by simp (config := sc) (disch := first | exact dd | fail) [std, e0, e1, e5, e10, e11, e12, efo, g9, b9, k6, hset]⟩ (by omega)
          · have hr := named_no hlt (hng.trans (by simp [h3]))
            simp (config := sc) (disch := first | exact dd | fail) [std, e0, e1, e5, e10, e11, e12, efo, g9, b9, k6, hr]
            refine o_call rfl rfl hf rfl rfl ?_
            simp (config := sc) (disch := first | exact dd | fail) [std, e0, e1, e5, e10, e11, e12, efo, g9, b9, k6, hr, h0, h2, h3]
        · have hr := named_no hlt (hng.trans (by simp [h2]))
          simp (config := sc) (disch := first | exact dd | fail) [std, e0, e1, e5, e10, e11, e12, efo, g9, b9, k6, hr]
          refine o_call rfl rfl hf rfl rfl ?_
          simp (config := sc) (disch := first | exact dd | fail) [std, e0, e1, e5, e10, e11, e12, efo, g9, b9, k6, hr, h0, h2]
  · have k6 : ¬ (i : Int) < l.length := by omega
    have hr : namedS l many = true := named_all.2 fun j hj => hn j (by omega)
    simp (config := sc) (disch := first | exact dd | fail) [std, e0, e1, e5, e10, e11, e12, efo, g9, b9, k6, hr]

end Go.Proofs.YtkbidfohcanijaaGreat
