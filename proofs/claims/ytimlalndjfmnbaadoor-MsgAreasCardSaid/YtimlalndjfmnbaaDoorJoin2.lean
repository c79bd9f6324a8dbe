/- Options that are read and joined: tlv.Read, tlv.Join; the document's. -/
import Derived.Test.YtimlalndjfmnbaaDoorJoin
namespace Go.Proofs.YtimlalndjfmnbaaDoor
open BoEng Go
set_option maxRecDepth 100000
attribute [-simp] List.map_take List.map_drop List.length_flatMap
set_option linter.unusedSimpArgs false
set_option linter.unusedVariables false

theorem joinG_pos {l : List Opt} {c : Int} {g : Nat} (h : 0 < g) : 0 < joinG l c g := by unfold joinG; split <;> omega
theorem joinS_new {l : List Opt} {o : Opt} (h : atS l o.code < 0) : joinS l o = l ++ [o] := by unfold joinS; rw [dif_neg (by omega)]
theorem joinS_old {l : List Opt} {o : Opt} {i : Nat} (hi : i < l.length) (h : atS l o.code = i) : joinS l o = l.set i ⟨l[i].code, l[i].data ++ o.data⟩ := by
  unfold joinS
  simp only [h, Int.toNat_natCast]
  rw [dif_pos ⟨hi, by omega⟩]
theorem joinS_len (l : List Opt) (o : Opt) : (joinS l o).length ≤ l.length + 1 := by
  unfold joinS; split <;> simp
theorem joinS_data {l : List Opt} {o : Opt} {m : Nat} (h : ∀ x ∈ l, x.data.length ≤ m) : ∀ x ∈ joinS l o, x.data.length ≤ m + o.data.length := by
  intro x hx
  unfold joinS at hx
  split at hx
  · rename_i hh
    rcases List.mem_or_eq_of_mem_set hx with h1 | h1
    · have := h x h1; omega
    · subst h1
      have := h _ (List.getElem_mem hh.1)
      simp only [List.length_append]; omega
  · rcases List.mem_append.1 hx with h1 | h1
    · have := h x h1; omega
    · simp at h1; subst h1; omega
theorem right_small {l : List Opt} (h : rightO l = true) : l.length ≤ 60 ∧ ∀ x ∈ l, x.data.length ≤ 600 := by
  simp only [rightO, Bool.and_eq_true, decide_eq_true_eq, List.all_eq_true, okO] at h
  exact ⟨h.1.1, fun x hx => (h.1.2 x hx).2⟩

/-- The options of bytes, and the error. -/
def rdN : Nat → List Opt → List UInt8 → Int × List Opt
  | 0, l, _ => (0, l)
  | _ + 1, l, [] => (0, l)
  | n + 1, l, c :: r =>
    if c.toNat = 255 then (0, l) else if c.toNat = 0 then rdN n l r else
    match r with
    | [] => (2, [])
    | k :: r => if r.length < k.toNat then (2, []) else if rightO (joinS l ⟨c.toNat, r.take k.toNat⟩) = true then rdN n (joinS l ⟨c.toNat, r.take k.toNat⟩) (r.drop k.toNat) else (3, [])
def rdS (b : List UInt8) : Int × List Opt := rdN b.length [] b

def rdI (b : List UInt8) (q : Nat × List Opt × List UInt8 × Nat) (S : PS) : Prop :=
  rdS b = rdN q.1 q.2.1 q.2.2.1 ∧ q.2.2.1.length ≤ q.1 ∧ q.1 ≤ b.length ∧ rightO q.2.1 = true ∧ 0 < q.2.2.2 ∧ S.t 0 = .d (.slice (q.2.2.1.map byteD)) ∧ S.t 4 = .bsl (FO + 4) q.2.2.2 q.2.1.length 2 true ∧ S.fo = FO ∧ S.gen (FO + 4) = q.2.2.2 ∧ S.box (FO + 4) = oBox q.2.1
theorem tlvRead (b : List UInt8) (hb : b.length ≤ 100000) : Holds Tryd.prog 56 [.d (.slice (b.map byteD))] (.tup [.d (.slice ((rdS b).2.map Opt.d)), .d (.int .i64 (rdS b).1)]) (fun _ => false) := by
  refine Holds.by (by kernel_rfl) Tryd.func56 (by kernel_rfl) rfl [2004005, 40048, 40053] (by simp) (by kernel_rfl) (by kernel_rfl) rfl ?_
  conv in ccs _ => cbv
  simp (config := sc) (disch := try exact dd) [std]
  refine lp (rdI b) (fun q => q.2.2.1.length) (b.length, [], b, 1) ⟨rfl, Nat.le_refl _, Nat.le_refl _, by (show rightO [] = true); decide, by (show 0 < 1); decide, by simp (config := sc) (disch := try exact dd) [std], by simp (config := sc) (disch := try exact dd) [std], by simp (config := sc) (disch := try exact dd) [std], by simp (config := sc) (disch := try exact dd) [std], by simp (config := sc) (disch := try exact dd) [std, oBox_nil]⟩ ?_
  rintro ⟨n, l, rest, g⟩ S ⟨hr, hn, hnb, hok, hg, e0, e4, efo, g4, b4⟩
  dsimp only at hr hn hnb hok hg e0 e4 g4 b4
  have hth := oBox_thaw (xs := l) rfl
  obtain ⟨hl60, hl6⟩ := right_small hok
  have hz : sized l := ⟨by omega, fun o ho => by have := hl6 o ho; omega⟩
  have qR := fun gl => tlvRightB l (FO + 4) g (fo := FO + 1000) (gl := gl) hz (by omega) hg
  rw [hok] at qR
  rw [hr]
  match n, rest, hn, e0 with
  | n, [], hn, e0 =>
    have h1 : rdN n l [] = (0, l) := by cases n <;> rfl
    simp (config := sc) (disch := try exact dd) [std, e0, e4, efo, g4, b4, h1, thawB, hth]
    done
  | 0, c :: r, hn, e0 => simp at hn
  | n + 1, c :: r, hn, e0 =>
    simp only [List.length_cons] at hn
    by_cases c255 : c.toNat = 255
    · have h1 : rdN (n + 1) l (c :: r) = (0, l) := by simp only [rdN, c255, if_true]
      simp (config := sc) (disch := try exact dd) [std, e0, e4, efo, g4, b4, h1, thawB, hth, c255]
      done
    have k255 : ¬ (c.toNat : Int) = 255 := by omega
    by_cases c0 : c.toNat = 0
    · have h1 : rdN (n + 1) l (c :: r) = rdN n l r := by simp only [rdN, c255, c0, if_true, if_false]; rfl
      rw [h1] at hr ⊢
      simp (config := sc) (disch := try exact dd) [std, e0, e4, efo, g4, b4, c0]
      refine o_cb (FO + 1000) rfl rfl (qR _) rfl (by simp (config := sc) (disch := try exact dd) [std, oU, efo, g4, b4, hg]) ?_
      simp (config := sc) (disch := try exact dd) [std, oU, e0, e4, efo, g4, b4, c0]
      exact nxt_of (n, l, r, g) ⟨hr, by dsimp only; omega, by dsimp only at hnb ⊢; omega, hok, hg, by simp (config := sc) (disch := try exact dd) [std], by simp (config := sc) (disch := try exact dd) [std, e4], by simp (config := sc) (disch := try exact dd) [std, efo], by simp (config := sc) (disch := try exact dd) [std, efo, g4], by simp (config := sc) (disch := try exact dd) [std, efo, b4]⟩ (by simp)
    have k0 : ¬ (c.toNat : Int) = 0 := by omega
    match r, hn, e0 with
    | [], hn, e0 =>
      have h1 : rdN (n + 1) l [c] = (2, []) := by simp only [rdN, c255, c0, if_false]
      simp (config := sc) (disch := try exact dd) [std, e0, e4, efo, g4, b4, k255, k0, h1, c255, c0]
      done
    | k :: r, hn, e0 =>
      have hk2 := k.toNat_lt
      simp only [List.length_cons] at hn
      have k3 : ¬ (r.length : Int) + 1 + 1 < 2 := by omega
      by_cases hk : r.length < k.toNat
      · have h1 : rdN (n + 1) l (c :: k :: r) = (2, []) := by simp only [rdN, c255, c0, if_false, hk, if_true]
        have k2 : (r.length : Int) + 1 + 1 < 2 + k.toNat := by omega
        simp (config := sc) (disch := try exact dd) [std, e0, e4, efo, g4, b4, k255, k0, h1, c255, c0, k2, k3]
        done
      · have k2 : ¬ (r.length : Int) + 1 + 1 < 2 + k.toNat := by omega
        have ht : ((2 : Int) + k.toNat).toNat = k.toNat + 1 + 1 := by omega
        have hdl2 : (r.take k.toNat).length ≤ 255 := by simp only [List.length_take]; omega
        have hdl : (r.take k.toNat).length ≤ 100000 := by omega
        have q := fun gl => tlvjoin l ⟨c.toNat, r.take k.toNat⟩ (FO + 4) g (fo := FO + 1000) (gl := gl) hz hdl (by omega) hg
        have hd2 := joinS_data (o := ⟨c.toNat, r.take k.toNat⟩) hl6
        have hl2 := joinS_len l ⟨c.toNat, r.take k.toNat⟩
        have hg2 := joinG_pos (l := l) (c := c.toNat) hg
        have h1 : rdN (n + 1) l (c :: k :: r) = if rightO (joinS l ⟨c.toNat, r.take k.toNat⟩) = true then rdN n (joinS l ⟨c.toNat, r.take k.toNat⟩) (r.drop k.toNat) else (3, []) := by simp only [rdN, c255, c0, if_false, hk]
        have hd : Opt.d ⟨c.toNat, r.take k.toNat⟩ = .agg [.int .i64 c.toNat, .slice ((r.take k.toNat).map byteD)] := rfl
        dsimp only at q
        generalize joinG l (c.toNat : Int) g = g2 at *
        rw [h1] at hr ⊢
        clear h1
        rw [hd] at q
        generalize joinS l ⟨c.toNat, r.take k.toNat⟩ = l2 at *
        have hz2 : sized l2 := ⟨by omega, fun o ho => by have := hd2 o ho; dsimp only at this; omega⟩
        have qR := fun gl => tlvRightB l2 (FO + 4) g2 (fo := FO + 2000) (gl := gl) hz2 (by omega) hg2
        simp (config := sc) (disch := try exact dd) [std, e0, e4, efo, g4, b4, k255, k0, c255, c0, k2, k3, ht]
        refine o_cb (FO + 1000) rfl rfl (q _) rfl (by simp (config := sc) (disch := try exact dd) [std, oU, efo, g4, b4, hg]) ?_
        cases hr2 : rightO l2 with
        | true =>
          rw [hr2] at qR
          rw [hr2, if_pos rfl] at hr
          rw [if_pos rfl]
          simp (config := sc) (disch := try exact dd) [std, oU, e0, e4, efo, g4, b4, k255, k0, c255, c0, k2, k3, ht]
          refine o_cb (FO + 2000) rfl rfl (qR _) rfl (by simp (config := sc) (disch := try exact dd) [std, oU, efo, g4, b4, hg2]) ?_
          simp (config := sc) (disch := try exact dd) [std, oU, e0, e4, efo, g4, b4]
          exact nxt_of (n, l2, r.drop k.toNat, g2) ⟨hr, by simp only [List.length_drop]; omega, by dsimp only at hnb ⊢; omega, hr2, hg2, by simp (config := sc) (disch := try exact dd) [std], by simp (config := sc) (disch := try exact dd) [std], by simp (config := sc) (disch := try exact dd) [std, efo], by simp (config := sc) (disch := try exact dd) [std, efo], by simp (config := sc) (disch := try exact dd) [std, efo]⟩ (by simp; omega)
        | false =>
          rw [hr2] at qR
          rw [if_neg (by decide)]
          simp (config := sc) (disch := try exact dd) [std, oU, e0, e4, efo, g4, b4, k255, k0, c255, c0, k2, k3, ht]
          refine o_cb (FO + 2000) rfl rfl (qR _) rfl (by simp (config := sc) (disch := try exact dd) [std, oU, efo, g4, b4, hg2]) ?_
          simp (config := sc) (disch := try exact dd) [std, oU, e0, e4, efo, g4, b4]
          done
end Go.Proofs.YtimlalndjfmnbaaDoor
