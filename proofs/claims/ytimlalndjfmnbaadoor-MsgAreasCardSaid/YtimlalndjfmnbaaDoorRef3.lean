/- Options that are read and joined, as the document says. -/
import Derived.Test.YtimlalndjfmnbaaDoorJoin3
namespace Go.Proofs.YtimlalndjfmnbaaDoor
open BoEng Go
set_option maxRecDepth 100000
attribute [-simp] List.map_take List.map_drop List.length_flatMap
set_option linter.unusedSimpArgs false
set_option linter.unusedVariables false

/-- One more option, joined with all of its code. -/
def jdM (c : Int) (d : List UInt8) (x : Opt) : Opt := if x.code = c then ⟨x.code, x.data ++ d⟩ else x
def jdS (l : List Opt) (c : Int) (d : List UInt8) : List Opt := l.map (jdM c d) ++ if hasN l c = 0 then [⟨c, d⟩] else []
theorem jdM_id {c : Int} {d : List UInt8} : ∀ {l : List Opt}, (∀ o ∈ l, o.code ≠ c) → l.map (jdM c d) = l
  | [], _ => rfl
  | x :: l, h => by
    have h1 : jdM c d x = x := by unfold jdM; rw [if_neg (h x (by simp))]
    rw [List.map_cons, h1, jdM_id fun o ho => h o (by simp [ho])]
theorem hasN_zero {l : List Opt} {c : Int} : hasN l c = 0 ↔ ∀ o ∈ l, o.code ≠ c := by
  have h0 : hasN l c = 0 ↔ (l.countP fun o => decide (o.code = c)) = 0 := by unfold hasN; omega
  rw [h0, List.countP_eq_zero]
  simp
theorem jdS_cons {x : Opt} {l : List Opt} {c : Int} {d : List UInt8} (h : x.code ≠ c) : jdS (x :: l) c d = x :: jdS l c d := by
  have h1 : jdM c d x = x := by unfold jdM; rw [if_neg h]
  have h2 : hasN (x :: l) c = hasN l c := by unfold hasN; rw [List.countP_cons]; simp [h]
  unfold jdS
  rw [List.map_cons, h1, h2]
  rfl
theorem joinS_cons {x : Opt} {l : List Opt} {c : Int} {d : List UInt8} (h : x.code ≠ c) : joinS (x :: l) ⟨c, d⟩ = x :: joinS l ⟨c, d⟩ := by
  have hr := atS_rng l c
  by_cases h0 : atS l c < 0
  · have h1 : atS (x :: l) c < 0 := by simp [atS, h, h0]
    rw [joinS_new h1, joinS_new h0]
    rfl
  · obtain ⟨i, hi⟩ := Int.eq_ofNat_of_zero_le (show 0 ≤ atS l c by omega)
    have hil : i < l.length := by omega
    have h1 : atS (x :: l) c = (i + 1 : Nat) := by
      have hn : ¬ (i : Int) < 0 := by omega
      simp [atS, h, hi, hn]
    rw [joinS_old (i := i + 1) (by simp; omega) h1, joinS_old hil hi]
    rfl
theorem jdS_eq : ∀ (l : List Opt) (c : Int) (d : List UInt8), (l.map Opt.code).Nodup → jdS l c d = joinS l ⟨c, d⟩
  | [], c, d, _ => by rw [joinS_new (by show (-1 : Int) < 0; decide)]; rfl
  | x :: l, c, d, h => by
    simp only [List.map_cons, List.nodup_cons] at h
    by_cases e : x.code = c
    · have hno : ∀ o ∈ l, o.code ≠ c := fun o ho he => h.1 (by rw [e, ← he]; exact List.mem_map_of_mem ho)
      have h1 : ¬ hasN (x :: l) c = 0 := fun h0 => hasN_zero.1 h0 x (by simp) e
      have h2 : atS (x :: l) c = (0 : Nat) := by simp [atS, e]
      rw [joinS_old (i := 0) (by simp) h2]
      unfold jdS
      rw [if_neg h1, List.append_nil, List.map_cons, jdM_id hno]
      simp [jdM, e]
    · rw [jdS_cons e, joinS_cons e, jdS_eq l c d h.2]
theorem joinS_codes (l : List Opt) (o : Opt) (h : (l.map Opt.code).Nodup) : ((joinS l o).map Opt.code).Nodup := by
  have hr := atS_rng l o.code
  by_cases h0 : atS l o.code < 0
  · rw [joinS_new h0, List.map_append, List.nodup_append]
    refine ⟨h, by simp, fun a ha b hb e => ?_⟩
    subst e
    simp at hb
    obtain ⟨x, hx, hxe⟩ := List.mem_map.1 ha
    exact (atS_none l o.code).1 h0 x hx (by rw [hxe, hb])
  · obtain ⟨i, hi⟩ := Int.eq_ofNat_of_zero_le (show 0 ≤ atS l o.code by omega)
    have hil : i < l.length := by omega
    rw [joinS_old hil hi, List.map_set]
    have : (l.map Opt.code).set i l[i].code = l.map Opt.code := by
      have h2 : l[i].code = (l.map Opt.code)[i]'(by simpa using hil) := by simp
      rw [h2, List.set_getElem_self]
    rw [this]
    exact h
theorem fold_codes : ∀ (xs out : List Opt), (out.map Opt.code).Nodup → ((xs.foldl joinS out).map Opt.code).Nodup
  | [], out, h => h
  | x :: xs, out, h => fold_codes xs _ (joinS_codes out x h)
theorem right_codes {l : List Opt} (h : rightO l = true) : (l.map Opt.code).Nodup := by
  simp only [rightO, Bool.and_eq_true, decide_eq_true_eq] at h
  exact h.2
/-- Options whose codes are unlike, joined one by one, are themselves. -/
theorem fold_self : ∀ (xs out : List Opt), ((out ++ xs).map Opt.code).Nodup → xs.foldl joinS out = out ++ xs
  | [], out, _ => by simp
  | x :: xs, out, h => by
    have hn : atS out x.code < 0 := by
      rw [atS_none]
      intro o ho e
      rw [List.map_append, List.nodup_append] at h
      exact h.2.2 _ (List.mem_map_of_mem ho) _ (by simp) e
    rw [List.foldl_cons, joinS_new hn, fold_self xs (out ++ [x]) (by simpa using h)]
    simp
theorem jnS_fold {l m : List Opt} (h : rightO l = true) : (l ++ m).foldl joinS [] = m.foldl joinS l := by
  rw [List.foldl_append, fold_self l [] (by simpa using right_codes h)]
  rfl

def r3K (l : List Opt) (c : Int) (d : List UInt8) (i : Nat) (S : PS) : Prop :=
  i ≤ l.length ∧ S.t 0 = .d (.slice (l.map Opt.d)) ∧ S.t 1 = .d (.int .i64 c) ∧ S.t 2 = .d (.slice (d.map byteD)) ∧ S.t 8 = .d (.int .i64 i) ∧ S.t 7 = .d (.slice (((l.take i).map (jdM c d)).map Opt.d)) ∧ S.own (.t 7 0) = true
theorem ref03Joined (l : List Opt) (c : Int) (d : List UInt8) (hl : sized l) (hd : d.length ≤ 100000) : Holds Tryd.prog 45 [.d (.slice (l.map Opt.d)), .d (.int .i64 c), .d (.slice (d.map byteD))] (.d (.slice ((jdS l c d).map Opt.d))) (fun _ => false) := by
  refine Holds.by (by kernel_rfl) Tryd.func45 (by kernel_rfl) rfl [33, 47] (by simp) (by kernel_rfl) (by kernel_rfl) rfl ?_
  conv in ccs _ => cbv
  have hs := hl.1
  simp (config := sc) (disch := try exact dd) [std]
  refine lp (r3K l c d) (fun i => l.length - i) 0 ⟨by omega, by simp (config := sc) (disch := try exact dd) [std], by simp (config := sc) (disch := try exact dd) [std], by simp (config := sc) (disch := try exact dd) [std], by simp (config := sc) (disch := try exact dd) [std], by simp (config := sc) (disch := try exact dd) [std], by simp (config := sc) (disch := try exact dd) [std]⟩ ?_
  rintro i S ⟨hi, e0, e1, e2, e8, e7, o7⟩
  by_cases hlt : i < l.length
  · have k6 : (i : Int) < l.length := by omega
    have hn : nth l (i : Int) = l[i] := nth_nat hlt
    have hz := sized_at hl hlt
    have hml : ((l.take i).map (jdM c d)).length ≤ 100000 := by simp only [List.length_map, List.length_take]; omega
    have ht : (l.take (i + 1)).map (jdM c d) = (l.take i).map (jdM c d) ++ [jdM c d l[i]] := by
      rw [List.take_succ_eq_append_getElem hlt, List.map_append]; rfl
    generalize (l.take i).map (jdM c d) = out at *
    by_cases hc : l[i].code = c
    · have hj : jdM c d l[i] = ⟨l[i].code, l[i].data ++ d⟩ := by unfold jdM; rw [if_pos hc]
      simp (config := sc) (disch := try exact dd) [std, e0, e1, e2, e8, e7, o7, k6, hn, hc]
      exact nxt_of (i + 1) ⟨by omega, by simp (config := sc) (disch := try exact dd) [std, e0], by simp (config := sc) (disch := try exact dd) [std, e1], by simp (config := sc) (disch := try exact dd) [std, e2], by simp (config := sc) (disch := try exact dd) [std], by rw [ht, hj]; simp (config := sc) (disch := try exact dd) [std, e7, hc], by simp (config := sc) (disch := try exact dd) [std, o7]⟩ (by omega)
    · have hj : jdM c d l[i] = l[i] := by unfold jdM; rw [if_neg hc]
      simp (config := sc) (disch := try exact dd) [std, e0, e1, e2, e8, e7, o7, k6, hn, hc]
      exact nxt_of (i + 1) ⟨by omega, by simp (config := sc) (disch := try exact dd) [std, e0], by simp (config := sc) (disch := try exact dd) [std, e1], by simp (config := sc) (disch := try exact dd) [std, e2], by simp (config := sc) (disch := try exact dd) [std], by rw [ht, hj]; simp (config := sc) (disch := try exact dd) [std, e7, hc], by simp (config := sc) (disch := try exact dd) [std, o7]⟩ (by omega)
  · have k6 : ¬ (i : Int) < l.length := by omega
    have ht : l.take i = l := List.take_of_length_le (by omega)
    rw [ht] at e7
    have q := ref03Has l c hl
    have hml : (l.map (jdM c d)).length ≤ 100000 := by simp only [List.length_map]; omega
    unfold jdS
    by_cases h0 : hasN l c = 0
    · rw [if_pos h0]
      rw [h0] at q
      generalize l.map (jdM c d) = out at *
      simp (config := sc) (disch := try exact dd) [std, e0, e1, e2, e8, e7, o7, k6]
      refine oc q ?_
      simp (config := sc) (disch := try exact dd) [std, e0, e1, e2, e8, e7, o7, k6]
      done
    · rw [if_neg h0, List.append_nil]
      generalize l.map (jdM c d) = out at *
      simp (config := sc) (disch := try exact dd) [std, e0, e1, e2, e8, e7, o7, k6]
      refine oc q ?_
      simp (config := sc) (disch := try exact dd) [std, e0, e1, e2, e8, e7, o7, k6, h0]
      done

def r3I (b : List UInt8) (q : Nat × List Opt × Nat) (S : PS) : Prop :=
  rdS b = rdN q.1 q.2.1 (b.drop q.2.2) ∧ b.length ≤ q.1 + q.2.2 ∧ q.2.2 ≤ b.length ∧ rightO q.2.1 = true ∧ S.t 0 = .d (.slice (b.map byteD)) ∧ S.t 4 = .d (.slice (q.2.1.map Opt.d)) ∧ S.t 5 = .d (.int .i64 q.2.2)
theorem ref03Read (b : List UInt8) (hb : b.length ≤ 100000) : Holds Tryd.prog 62 [.d (.slice (b.map byteD))] (.tup [.d (.slice ((rdS b).2.map Opt.d)), .d (.int .i64 (rdS b).1)]) (fun _ => false) := by
  refine Holds.by (by kernel_rfl) Tryd.func62 (by kernel_rfl) rfl [] (by simp) (by kernel_rfl) (by kernel_rfl) rfl ?_
  conv in ccs _ => cbv
  simp (config := sc) (disch := try exact dd) [std]
  refine lp (r3I b) (fun q => b.length - q.2.2) (b.length, [], 0) ⟨rfl, Nat.le_refl _, Nat.zero_le _, by (show rightO [] = true); decide, by simp (config := sc) (disch := try exact dd) [std], by simp (config := sc) (disch := try exact dd) [std], by simp (config := sc) (disch := try exact dd) [std]⟩ ?_
  rintro ⟨n, l, i⟩ S ⟨hr, hn, hi, hok, e0, e4, e5⟩
  dsimp only at hr hn hi hok e0 e4 e5
  rw [hr]
  obtain ⟨hl60, hl6⟩ := right_small hok
  have hz : sized l := ⟨by omega, fun o ho => by have := hl6 o ho; omega⟩
  by_cases hlt : i < b.length
  · have k6 : (i : Int) < b.length := by omega
    have hn0 : nth b (i : Int) = b[i] := nth_nat hlt
    have hdr := List.drop_eq_getElem_cons hlt
    obtain ⟨n, rfl⟩ : ∃ k, n = k + 1 := ⟨n - 1, by omega⟩
    rw [hdr] at hr ⊢
    generalize b[i] = c at *
    have hc2 := c.toNat_lt
    by_cases c255 : c.toNat = 255
    · have h1 : rdN (n + 1) l (c :: b.drop (i + 1)) = (0, l) := by simp only [rdN, c255, if_true]
      simp (config := sc) (disch := try exact dd) [std, e0, e4, e5, k6, hn0, h1, c255]
      done
    have k255 : ¬ (c.toNat : Int) = 255 := by omega
    by_cases c0 : c.toNat = 0
    · have h1 : rdN (n + 1) l (c :: b.drop (i + 1)) = rdN n l (b.drop (i + 1)) := by simp only [rdN, c255, c0, if_true, if_false]; rfl
      rw [h1] at hr ⊢
      simp (config := sc) (disch := try exact dd) [std, e0, e4, e5, k6, hn0, c0]
      exact nxt_of (n, l, i + 1) ⟨hr, by dsimp only; omega, by dsimp only; omega, hok, by simp (config := sc) (disch := try exact dd) [std, e0], by simp (config := sc) (disch := try exact dd) [std, e4], by simp (config := sc) (disch := try exact dd) [std]⟩ (by dsimp only; omega)
    have k0 : ¬ (c.toNat : Int) = 0 := by omega
    by_cases hlt2 : i + 1 < b.length
    · have hn1 : nth b ((i : Int) + 1) = b[i + 1] := by
        have := nth_nat (l := b) (i := i + 1) hlt2
        rw [← this]; simp
      have hdr2 := List.drop_eq_getElem_cons hlt2
      rw [hdr2] at hr ⊢
      generalize b[i + 1] = k at *
      have hk2 := k.toNat_lt
      have hk3 : (b.drop (i + 1 + 1)).length = b.length - (i + 2) := by simp
      have k7 : ¬ (b.length : Int) ≤ (i : Int) + 1 := by omega
      by_cases hk : (b.drop (i + 1 + 1)).length < k.toNat
      · have h1 : rdN (n + 1) l (c :: k :: b.drop (i + 1 + 1)) = (2, []) := by simp only [rdN, c255, c0, if_false, hk, if_true]
        have k8 : (b.length : Int) < (i : Int) + 2 + k.toNat := by omega
        simp (config := sc) (disch := try exact dd) [std, e0, e4, e5, k6, hn0, hn1, k255, k0, h1, k7, k8]
        done
      · have k8 : ¬ (b.length : Int) < (i : Int) + 2 + k.toNat := by omega
        have ht1 : ((i : Int) + 2).toNat = i + 2 := by omega
        have ht2 : ((i : Int) + 2 + (k.toNat : Int)).toNat = i + 2 + k.toNat := by omega
        have hsl : (b.take (i + 2 + k.toNat)).drop (i + 2) = (b.drop (i + 1 + 1)).take k.toNat := by
          rw [List.drop_take]
          congr 1
          omega
        have hdl2 : ((b.drop (i + 1 + 1)).take k.toNat).length ≤ 255 := by rw [List.length_take]; omega
        have hdd2 : (b.drop (i + 1 + 1)).drop k.toNat = b.drop (i + 2 + k.toNat) := by rw [List.drop_drop]
        have h1 : rdN (n + 1) l (c :: k :: b.drop (i + 1 + 1)) = if rightO (joinS l ⟨c.toNat, (b.drop (i + 1 + 1)).take k.toNat⟩) = true then rdN n (joinS l ⟨c.toNat, (b.drop (i + 1 + 1)).take k.toNat⟩) (b.drop (i + 2 + k.toNat)) else (3, []) := by simp only [rdN, c255, c0, if_false, hk, hdd2]
        rw [h1] at hr ⊢
        have q := ref03Joined l c.toNat ((b.drop (i + 1 + 1)).take k.toNat) hz (by omega)
        rw [jdS_eq _ _ _ (right_codes hok)] at q
        have hd2 := joinS_data (o := ⟨c.toNat, (b.drop (i + 1 + 1)).take k.toNat⟩) hl6
        have hl2 := joinS_len l ⟨c.toNat, (b.drop (i + 1 + 1)).take k.toNat⟩
        clear h1 hdr hdr2 hdd2
        generalize joinS l ⟨c.toNat, (b.drop (i + 1 + 1)).take k.toNat⟩ = l2 at *
        have hz2 : sized l2 := ⟨by omega, fun o ho => by have := hd2 o ho; dsimp only at this; omega⟩
        have qR := ref03Right l2 hz2
        have k9 : (i : Int) + 2 + k.toNat ≤ b.length := by omega
        cases hr2 : rightO l2 with
        | true =>
          rw [hr2] at qR
          rw [hr2, if_pos rfl] at hr
          rw [if_pos rfl]
          simp (config := sc) (disch := try exact dd) [std, e0, e4, e5, k6, hn0, hn1, k255, k0, k7, k8, k9, ht1, ht2, hsl]
          refine oc q ?_
          simp (config := sc) (disch := try exact dd) [std, e0, e4, e5, k6, hn0, hn1, k255, k0, k7, k8, ht1, ht2, hsl]
          refine oc qR ?_
          simp (config := sc) (disch := try exact dd) [std, e0, e4, e5, k6, hn0, hn1]
          exact nxt_of (n, l2, i + 2 + k.toNat) ⟨hr, by dsimp only; omega, by dsimp only; omega, hr2, by simp (config := sc) (disch := try exact dd) [std, e0], by simp (config := sc) (disch := try exact dd) [std], by simp (config := sc) (disch := try exact dd) [std]⟩ (by dsimp only; omega)
        | false =>
          rw [hr2] at qR
          rw [if_neg (by decide)]
          simp (config := sc) (disch := try exact dd) [std, e0, e4, e5, k6, hn0, hn1, k255, k0, k7, k8, k9, ht1, ht2, hsl]
          refine oc q ?_
          simp (config := sc) (disch := try exact dd) [std, e0, e4, e5, k6, hn0, hn1, k255, k0, k7, k8, ht1, ht2, hsl]
          refine oc qR ?_
          simp (config := sc) (disch := try exact dd) [std, e0, e4, e5, k6, hn0, hn1]
          done
    · have hnil : b.drop (i + 1) = [] := List.drop_eq_nil_of_le (by omega)
      rw [hnil]
      have h1 : rdN (n + 1) l [c] = (2, []) := by simp only [rdN, c255, c0, if_false]
      have k7 : (b.length : Int) ≤ (i : Int) + 1 := by omega
      simp (config := sc) (disch := try exact dd) [std, e0, e4, e5, k6, hn0, k255, k0, h1, k7]
      done
  · have k6 : ¬ (i : Int) < b.length := by omega
    have hnil : b.drop i = [] := List.drop_eq_nil_of_le (by omega)
    rw [hnil]
    have h1 : rdN n l [] = (0, l) := by cases n <;> rfl
    simp (config := sc) (disch := try exact dd) [std, e0, e4, e5, k6, h1]
    done

def r3J (l m : List Opt) (i : Nat) (S : PS) : Prop :=
  i ≤ m.length ∧ S.t 1 = .d (.slice (m.map Opt.d)) ∧ S.t 7 = .d (.int .i64 i) ∧ S.t 6 = .d (.slice (((m.take i).foldl joinS l).map Opt.d))
theorem ref03Join (l m : List Opt) (hl : sized l) (hm : sized m) : Holds Tryd.prog 24 [.d (.slice (l.map Opt.d)), .d (.slice (m.map Opt.d))] (.tup [.d (.slice ((jnS l m).2.map Opt.d)), .d (.int .i64 (jnS l m).1)]) (fun _ => false) := by
  refine Holds.by (by kernel_rfl) Tryd.func24 (by kernel_rfl) rfl [] (by simp) (by kernel_rfl) (by kernel_rfl) rfl ?_
  conv in ccs _ => cbv
  have q1 := ref03Right l hl
  have q2 := ref03Right m hm
  cases hr1 : rightO l with
  | false =>
    have hz : jnS l m = (1, []) := by unfold jnS; rw [if_neg (by rw [hr1]; simp)]
    rw [hr1] at q1
    rw [hz]
    simp (config := sc) (disch := try exact dd) [std]
    refine oc q1 ?_
    simp (config := sc) (disch := try exact dd) [std]
  | true =>
  cases hr2 : rightO m with
  | false =>
    have hz : jnS l m = (1, []) := by unfold jnS; rw [if_neg (by rw [hr2]; simp)]
    rw [hr1] at q1
    rw [hr2] at q2
    rw [hz]
    simp (config := sc) (disch := try exact dd) [std]
    refine oc q1 ?_
    simp (config := sc) (disch := try exact dd) [std]
    refine oc q2 ?_
    simp (config := sc) (disch := try exact dd) [std]
  | true =>
  have hl60 := right_small hr1
  have hm60 := right_small hr2
  have hfz : ∀ i, sized ((m.take i).foldl joinS l) := fun i => by
    have := fold_sized (l ++ m.take i) (by have := hl60.1; have := hm60.1; simp only [List.length_append, List.length_take]; omega) (fun x hx => by
      rcases List.mem_append.1 hx with h | h
      · exact hl60.2 x h
      · exact hm60.2 x (List.mem_of_mem_take h))
    rwa [jnS_fold hr1] at this
  have hjn : jnS l m = if rightO (m.foldl joinS l) = true then (0, m.foldl joinS l) else (3, []) := by unfold jnS; rw [if_pos ⟨hr1, hr2⟩, jnS_fold hr1]
  rw [hjn]
  rw [hr1] at q1
  rw [hr2] at q2
  simp (config := sc) (disch := try exact dd) [std]
  refine oc q1 ?_
  simp (config := sc) (disch := try exact dd) [std]
  refine oc q2 ?_
  simp (config := sc) (disch := try exact dd) [std]
  refine lp (r3J l m) (fun i => m.length - i) 0 ⟨by omega, by simp (config := sc) (disch := try exact dd) [std], by simp (config := sc) (disch := try exact dd) [std], by simp (config := sc) (disch := try exact dd) [std]⟩ ?_
  rintro i S ⟨hi, e1, e7, e6⟩
  by_cases hlt : i < m.length
  · have k6 : (i : Int) < m.length := by omega
    have hn : nth m (i : Int) = m[i] := nth_nat hlt
    have hmem := hm60.2 m[i] (List.getElem_mem hlt)
    have hz := hfz i
    have hst : (m.take (i + 1)).foldl joinS l = joinS ((m.take i).foldl joinS l) m[i] := by
      rw [List.take_succ_eq_append_getElem hlt, List.foldl_append]; rfl
    have hco := fold_codes (m.take i) l (right_codes hr1)
    generalize (m.take i).foldl joinS l = out at *
    generalize m[i] = o at *
    have q := ref03Joined out o.code o.data hz (by omega)
    rw [jdS_eq _ _ _ hco] at q
    simp (config := sc) (disch := try exact dd) [std, e1, e7, e6, k6, hn]
    refine oc q ?_
    simp (config := sc) (disch := try exact dd) [std, e1, e7, e6, k6, hn]
    exact nxt_of (i + 1) ⟨by omega, by simp (config := sc) (disch := try exact dd) [std, e1], by simp (config := sc) (disch := try exact dd) [std], by rw [hst]; simp (config := sc) (disch := try exact dd) [std]⟩ (by omega)
  · have k6 : ¬ (i : Int) < m.length := by omega
    have ht : m.take i = m := List.take_of_length_le (by omega)
    have hz := hfz i
    rw [ht] at e6 hz
    generalize m.foldl joinS l = out at *
    have qR := ref03Right out hz
    cases hr3 : rightO out with
    | true =>
      rw [hr3] at qR
      rw [if_pos rfl]
      simp (config := sc) (disch := try exact dd) [std, e1, e7, e6, k6]
      refine oc qR ?_
      simp (config := sc) (disch := try exact dd) [std, e6]
      done
    | false =>
      rw [hr3] at qR
      rw [if_neg (by decide)]
      simp (config := sc) (disch := try exact dd) [std, e1, e7, e6, k6]
      refine oc qR ?_
      simp (config := sc) (disch := try exact dd) [std, e6]
      done
end Go.Proofs.YtimlalndjfmnbaaDoor
