/- The options of a message's bytes: msg.wrong, msg.take, msg.more, msg.options. -/
import Derived.Test.YtimlalndjfmnbaaDoorJoin3
namespace Go.Proofs.YtimlalndjfmnbaaDoor
open BoEng Go
set_option maxRecDepth 100000
attribute [-simp] List.map_take List.map_drop List.length_flatMap
set_option linter.unusedSimpArgs false
set_option linter.unusedVariables false

/-- Options without a code. -/
def withoutS (l : List Opt) (c : Int) : List Opt := l.filter fun o => decide (o.code ≠ c)
/-- The overload: the error, what is left, its number. -/
def takeS (l : List Opt) : Int × List Opt × Int :=
  match findS l 52 with
  | none => (0, l, 0)
  | some [x] => if 1 ≤ x.toNat ∧ x.toNat ≤ 3 then (0, withoutS l 52, x.toNat) else (2, [], 0)
  | some _ => (2, [], 0)
def moreS (l : List Opt) (area : List UInt8) : Int × List Opt :=
  if (rdS area).1 ≠ 0 then ((rdS area).1, []) else if (findS (rdS area).2 52).isSome = true then (2, []) else jnS l (rdS area).2
def optsT (l : List Opt) (v : Int) (b : List UInt8) : Int × List Opt :=
  if (if v = 1 ∨ v = 3 then moreS l ((b.take 236).drop 108) else (0, l)).1 ≠ 0 then (if v = 1 ∨ v = 3 then moreS l ((b.take 236).drop 108) else (0, l)) else
  if v = 2 ∨ v = 3 then moreS (if v = 1 ∨ v = 3 then moreS l ((b.take 236).drop 108) else (0, l)).2 ((b.take 108).drop 44) else (if v = 1 ∨ v = 3 then moreS l ((b.take 236).drop 108) else (0, l))
def optsS (b : List UInt8) : Int × List Opt :=
  if (rdS (b.drop 240)).1 ≠ 0 then ((rdS (b.drop 240)).1, []) else
  if (takeS (rdS (b.drop 240)).2).1 ≠ 0 then (2, []) else optsT (takeS (rdS (b.drop 240)).2).2.1 (takeS (rdS (b.drop 240)).2).2.2 b

theorem rdN_err : ∀ (n : Nat) (l : List Opt) (b : List UInt8), rightO l = true → ((rdN n l b).1 = 0 ∧ rightO (rdN n l b).2 = true) ∨ (((rdN n l b).1 = 2 ∨ (rdN n l b).1 = 3) ∧ (rdN n l b).2 = [])
  | 0, l, b, h => .inl ⟨rfl, h⟩
  | n + 1, l, [], h => .inl ⟨rfl, h⟩
  | n + 1, l, c :: r, h => by
    unfold rdN
    split
    · exact .inl ⟨rfl, h⟩
    · split
      · exact rdN_err n l r h
      · split
        · exact .inr ⟨.inl rfl, rfl⟩
        · split
          · exact .inr ⟨.inl rfl, rfl⟩
          · split
            · rename_i h2
              exact rdN_err n _ _ h2
            · exact .inr ⟨.inr rfl, rfl⟩
theorem rdS_err (b : List UInt8) : ((rdS b).1 = 0 ∧ rightO (rdS b).2 = true) ∨ (((rdS b).1 = 2 ∨ (rdS b).1 = 3) ∧ (rdS b).2 = []) := rdN_err _ _ _ (by decide)
theorem rdS_sized (b : List UInt8) : sized (rdS b).2 := by
  rcases rdS_err b with h | h
  · obtain ⟨h1, h2⟩ := right_small h.2
    exact ⟨by omega, fun o ho => by have := h2 o ho; omega⟩
  · rw [h.2]; exact ⟨by simp, by simp⟩
theorem jnS_err (l m : List Opt) : ((jnS l m).1 = 0 ∧ rightO (jnS l m).2 = true) ∨ (((jnS l m).1 = 1 ∨ (jnS l m).1 = 3) ∧ (jnS l m).2 = []) := by
  unfold jnS
  split
  · split
    · rename_i h; exact .inl ⟨rfl, h⟩
    · exact .inr ⟨.inr rfl, rfl⟩
  · exact .inr ⟨.inl rfl, rfl⟩
theorem without_right {l : List Opt} {c : Int} (h : rightO l = true) : rightO (withoutS l c) = true := by
  simp only [rightO, Bool.and_eq_true, decide_eq_true_eq, List.all_eq_true] at h ⊢
  refine ⟨⟨Nat.le_trans (List.length_filter_le _ _) h.1.1, fun o ho => h.1.2 o (List.mem_filter.1 ho).1⟩, ?_⟩
  exact h.2.sublist (List.filter_sublist.map _)
theorem moreS_err {l : List Opt} (hl : rightO l = true) (a : List UInt8) : ((moreS l a).1 = 0 ∧ rightO (moreS l a).2 = true) ∨ (((moreS l a).1 = 2 ∨ (moreS l a).1 = 3) ∧ (moreS l a).2 = []) := by
  unfold moreS
  rcases rdS_err a with h | h
  · rw [if_neg (by simp [h.1])]
    split
    · exact .inr ⟨.inl rfl, rfl⟩
    · unfold jnS
      rw [if_pos ⟨hl, h.2⟩]
      split
      · rename_i h2; exact .inl ⟨rfl, h2⟩
      · exact .inr ⟨.inr rfl, rfl⟩
  · rw [if_pos (by rcases h.1 with h | h <;> rw [h] <;> decide)]
    exact .inr ⟨h.1, rfl⟩

/-- An error's value: errForm, and one that was met. -/
def errF : Value := .iface 101 (.agg #[.int .i64 2])
def errW (w : List UInt8) (n : Int) : Value := .iface 117 (.agg #[.string ⟨w.toArray⟩, .iface 101 (.agg #[.int .i64 n])])
def wrongV (n : Int) (w : List UInt8) : Value := if n = 0 then .nilIface else errW w n
/-- An error that has a number. -/
def ErrIs (v : Value) (n : Int) : Prop := (n = 0 ∧ v = .nilIface) ∨ (n = 2 ∧ v = errF) ∨ ((n = 2 ∨ n = 3) ∧ ∃ w, v = errW w n)
theorem ErrIs.wrong {n : Int} {w : List UInt8} (h : n = 0 ∨ n = 2 ∨ n = 3) : ErrIs (wrongV n w) n := by
  unfold wrongV ErrIs
  rcases h with h | h | h
  · subst h; exact .inl ⟨rfl, rfl⟩
  · subst h; exact .inr (.inr ⟨.inl rfl, w, rfl⟩)
  · subst h; exact .inr (.inr ⟨.inr rfl, w, rfl⟩)

@[simp] theorem cells_if {t : Nat} {v : Value} : cells (.opq (.iface t v)) = [.opq (.iface t v)] := rfl
@[simp] theorem cells_ni : cells (.opq .nilIface) = [.opq .nilIface] := rfl
@[simp] theorem glForm : glD Tryd.prog 0 101 = some (.agg [.int .i64 2]) := by kernel_rfl

theorem msgWrong (n : Int) (w : List UInt8) : Holds Tryd.prog 57 [.d (.int .i64 n), .d (.str w)] (.d (.opq (wrongV n w))) (fun _ => false) := by
  refine Holds.by (by kernel_rfl) Tryd.func57 (by kernel_rfl) rfl [] (by simp) (by kernel_rfl) (by kernel_rfl) rfl ?_
  conv in ccs _ => cbv
  unfold wrongV errW
  by_cases h : n = 0
  · rw [if_pos h]
    simp (config := sc) (disch := try exact dd) [std, h]
  · rw [if_neg h]
    simp (config := sc) (disch := try exact dd) [std, h]

def tkI (l : List Opt) (x : UInt8) (i : Nat) (S : PS) : Prop :=
  i ≤ l.length ∧ S.t 5 = .d (.slice [byteD x]) ∧ S.t 35 = .d (.slice (l.map Opt.d)) ∧ S.t 36 = .d (.int .i64 l.length) ∧ S.t 37 = .d (.int .i64 i) ∧ S.t 7 = .d (.slice ((withoutS (l.take i) 52).map Opt.d)) ∧ S.own (.t 7 0) = true
theorem msgTake (l : List Opt) (hl : sized l) : ∃ v, ErrIs v (takeS l).1 ∧ Holds Tryd.prog 58 [.d (.slice (l.map Opt.d))] (.tup [.d (.slice ((takeS l).2.1.map Opt.d)), .d (.int .i64 (takeS l).2.2), .d (.opq v)]) (fun _ => false) := by
  have q := tlvFind l 52 hl
  have hs := hl.1
  unfold takeS
  cases hf : findS l 52 with
  | none =>
    rw [hf] at q
    refine ⟨.nilIface, .inl ⟨rfl, rfl⟩, ?_⟩
    refine Holds.by (by kernel_rfl) Tryd.func58 (by kernel_rfl) rfl [44] (by simp) (by kernel_rfl) (by kernel_rfl) rfl ?_
    conv in ccs _ => cbv
    simp (config := sc) (disch := try exact dd) [std]
    refine oc q ?_
    simp (config := sc) (disch := try exact dd) [std]
  | some d =>
    rw [hf] at q
    match d, q with
    | [], q =>
      refine ⟨errF, .inr (.inl ⟨rfl, rfl⟩), ?_⟩
      refine Holds.by (by kernel_rfl) Tryd.func58 (by kernel_rfl) rfl [44] (by simp) (by kernel_rfl) (by kernel_rfl) rfl ?_
      conv in ccs _ => cbv
      unfold errF
      simp (config := sc) (disch := try exact dd) [std]
      refine oc q ?_
      simp (config := sc) (disch := try exact dd) [std]
      done
    | x :: y :: r, q =>
      refine ⟨errF, .inr (.inl ⟨rfl, rfl⟩), ?_⟩
      refine Holds.by (by kernel_rfl) Tryd.func58 (by kernel_rfl) rfl [44] (by simp) (by kernel_rfl) (by kernel_rfl) rfl ?_
      conv in ccs _ => cbv
      unfold errF
      have k1 : ¬ (r.length : Int) + 1 + 1 = 1 := by omega
      simp (config := sc) (disch := try exact dd) [std]
      refine oc q ?_
      simp (config := sc) (disch := try exact dd) [std, k1]
      done
    | [x], q =>
      have hx := x.toNat_lt
      dsimp only
      by_cases h13 : 1 ≤ x.toNat ∧ x.toNat ≤ 3
      · rw [if_pos h13]
        refine ⟨.nilIface, .inl ⟨rfl, rfl⟩, ?_⟩
        refine Holds.by (by kernel_rfl) Tryd.func58 (by kernel_rfl) rfl [44] (by simp) (by kernel_rfl) (by kernel_rfl) rfl ?_
        conv in ccs _ => cbv
        have k1 : ¬ (x.toNat : Int) < 1 := by omega
        have k2 : ¬ 3 < (x.toNat : Int) := by omega
        simp (config := sc) (disch := try exact dd) [std]
        refine oc q ?_
        simp (config := sc) (disch := try exact dd) [std, k1, k2]
        refine lp (tkI l x) (fun i => l.length - i) 0 ⟨by omega, by simp (config := sc) (disch := try exact dd) [std], by simp (config := sc) (disch := try exact dd) [std], by simp (config := sc) (disch := try exact dd) [std], by simp (config := sc) (disch := try exact dd) [std], by simp (config := sc) (disch := try exact dd) [std, withoutS], by simp (config := sc) (disch := try exact dd) [std]⟩ ?_
        rintro i S ⟨hi, e5, e35, e36, e37, e7, o7⟩
        by_cases hlt : i < l.length
        · have k6 : (i : Int) < l.length := by omega
          have hn : nth l (i : Int) = l[i] := nth_nat hlt
          have hwl : (withoutS (l.take i) 52).length ≤ 100000 := by
            have := List.length_filter_le (fun o : Opt => decide (o.code ≠ 52)) (l.take i)
            simp only [List.length_take] at this
            unfold withoutS
            omega
          by_cases hc : l[i].code = 52
          · have ht : withoutS (l.take (i + 1)) 52 = withoutS (l.take i) 52 := by
              unfold withoutS
              rw [List.take_succ_eq_append_getElem hlt, List.filter_append]
              simp [hc]
            simp (config := sc) (disch := try exact dd) [std, e5, e35, e36, e37, e7, o7, k6, hn, hc]
            exact nxt_of (i + 1) ⟨by omega, by simp (config := sc) (disch := try exact dd) [std, e5], by simp (config := sc) (disch := try exact dd) [std, e35], by simp (config := sc) (disch := try exact dd) [std, e36], by simp (config := sc) (disch := try exact dd) [std], by rw [ht]; simp (config := sc) (disch := try exact dd) [std, e7], by simp (config := sc) (disch := try exact dd) [std, o7]⟩ (by omega)
          · have ht : withoutS (l.take (i + 1)) 52 = withoutS (l.take i) 52 ++ [l[i]] := by
              unfold withoutS
              rw [List.take_succ_eq_append_getElem hlt, List.filter_append]
              simp [hc]
            simp (config := sc) (disch := try exact dd) [std, e5, e35, e36, e37, e7, o7, k6, hn, hc]
            exact nxt_of (i + 1) ⟨by omega, by simp (config := sc) (disch := try exact dd) [std, e5], by simp (config := sc) (disch := try exact dd) [std, e35], by simp (config := sc) (disch := try exact dd) [std, e36], by simp (config := sc) (disch := try exact dd) [std], by rw [ht]; simp (config := sc) (disch := try exact dd) [std, e7], by simp (config := sc) (disch := try exact dd) [std, o7]⟩ (by omega)
        · have k6 : ¬ (i : Int) < l.length := by omega
          have ht : l.take i = l := List.take_of_length_le (by omega)
          rw [ht] at e7
          simp (config := sc) (disch := try exact dd) [std, e5, e35, e36, e37, e7, o7, k6]
          done
      · rw [if_neg h13]
        refine ⟨errF, .inr (.inl ⟨rfl, rfl⟩), ?_⟩
        refine Holds.by (by kernel_rfl) Tryd.func58 (by kernel_rfl) rfl [44] (by simp) (by kernel_rfl) (by kernel_rfl) rfl ?_
        conv in ccs _ => cbv
        unfold errF
        simp (config := sc) (disch := try exact dd) [std]
        refine oc q ?_
        by_cases k1 : (x.toNat : Int) < 1
        · simp (config := sc) (disch := try exact dd) [std, k1]
        · have k2 : 3 < (x.toNat : Int) := by omega
          simp (config := sc) (disch := try exact dd) [std, k1, k2]
          done

theorem msgMore (l : List Opt) (a : List UInt8) (hl : rightO l = true) (ha : a.length ≤ 100000) : ∃ v, ErrIs v (moreS l a).1 ∧ Holds Tryd.prog 59 [.d (.slice (l.map Opt.d)), .d (.slice (a.map byteD))] (.tup [.d (.slice ((moreS l a).2.map Opt.d)), .d (.opq v)]) (fun _ => false) := by
  have q1 := tlvRead a ha
  have hz := rdS_sized a
  have he := rdS_err a
  have hz0 : sized l := by
    obtain ⟨h1, h2⟩ := right_small hl
    exact ⟨by omega, fun o ho => by have := h2 o ho; omega⟩
  have hm := moreS_err hl a
  unfold moreS at hm ⊢
  generalize rdS a = p at *
  obtain ⟨e, m⟩ := p
  dsimp only at q1 hz he hm ⊢
  have q2 := tlvFind m 52 hz
  by_cases h0 : e = 0
  · subst h0
    rw [if_neg (by decide)] at hm ⊢
    cases hf : findS m 52 with
    | some d =>
      rw [hf] at q2
      rw [Option.isSome_some, if_pos rfl]
      refine ⟨errW [116, 119, 105, 99, 101] 2, .inr (.inr ⟨.inl rfl, _, rfl⟩), ?_⟩
      refine Holds.by (by kernel_rfl) Tryd.func59 (by kernel_rfl) rfl [] (by simp) (by kernel_rfl) (by kernel_rfl) rfl ?_
      conv in ccs _ => cbv
      unfold errW
      simp (config := sc) (disch := try exact dd) [std]
      refine oc q1 ?_
      simp (config := sc) (disch := try exact dd) [std]
      refine oc q2 ?_
      simp (config := sc) (disch := try exact dd) [std]
      done
    | none =>
      rw [hf] at q2 hm
      rw [Option.isSome_none, if_neg (by decide)] at hm ⊢
      have q3 := tlvJoin l m hz0 hz
      generalize jnS l m = j at *
      obtain ⟨f, o⟩ := j
      dsimp only at q3 hm ⊢
      have q4 := msgWrong f [106, 111, 105, 110]
      refine ⟨wrongV f [106, 111, 105, 110], ErrIs.wrong (by omega), ?_⟩
      refine Holds.by (by kernel_rfl) Tryd.func59 (by kernel_rfl) rfl [] (by simp) (by kernel_rfl) (by kernel_rfl) rfl ?_
      conv in ccs _ => cbv
      simp (config := sc) (disch := try exact dd) [std]
      refine oc q1 ?_
      simp (config := sc) (disch := try exact dd) [std]
      refine oc q2 ?_
      simp (config := sc) (disch := try exact dd) [std]
      refine oc q3 ?_
      simp (config := sc) (disch := try exact dd) [std]
      refine oc q4 ?_
      simp (config := sc) (disch := try exact dd) [std]
      done
  · rw [if_pos h0]
    have q4 := msgWrong e [97, 114, 101, 97]
    refine ⟨wrongV e [97, 114, 101, 97], ErrIs.wrong (by omega), ?_⟩
    refine Holds.by (by kernel_rfl) Tryd.func59 (by kernel_rfl) rfl [] (by simp) (by kernel_rfl) (by kernel_rfl) rfl ?_
    conv in ccs _ => cbv
    simp (config := sc) (disch := try exact dd) [std]
    refine oc q1 ?_
    simp (config := sc) (disch := try exact dd) [std, h0]
    refine oc q4 ?_
    simp (config := sc) (disch := try exact dd) [std]
    done
end Go.Proofs.YtimlalndjfmnbaaDoor
