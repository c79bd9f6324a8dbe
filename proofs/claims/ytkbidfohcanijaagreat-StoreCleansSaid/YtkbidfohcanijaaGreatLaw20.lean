/- The laws of chapter 20, walked. -/
import Derived.Test.YtkbidfohcanijaaGreatStore
import Derived.Test.YtkbidfohcanijaaGreatKept
import Derived.Test.YtkbidfohcanijaaGreatCleanP
namespace Go.Proofs.YtkbidfohcanijaaGreat
open BoEng Go
set_option maxRecDepth 100000
attribute [-simp] List.map_take List.map_drop List.length_flatMap
set_option linter.unusedSimpArgs false
set_option linter.unusedVariables false

/-- A store to which leases were put. -/
structure MInv (s : StR) (xs : List LeaseR) : Prop where
  sd : Sd s.k xs
  nm : Nms s.k
  t : s.t = lastL xs
  r : tableR s.t = true
theorem minv0 : MInv st0 [] := ⟨sd_nil, nms_nil, rfl, tab_nil⟩
theorem MInv.ok {s : StR} {xs : List LeaseR} (h : MInv s xs) : okK s.k ∧ TOk s.t := by
  obtain ⟨h1, h2, _⟩ := tab_iff.1 h.r
  exact ⟨ok_right h.sd.r, by omega, fun l hl => by have := key_len (right_rng (h2 l hl)).2.2.2; omega⟩
/-- What becomes of a store when a lease is put. -/
theorem put_any {s : StR} {xs : List LeaseR} (h : MInv s xs) (l : LeaseR) (fuel : Int) :
    ((setT s.t l).2 ≠ 0 → putT s l fuel = (s, 0, false)) ∧ ((setT s.t l).2 = 0 → rightL l = true ∧ (setT s.t l).1 = lastL (xs ++ [l]) ∧ Rec (oneMore xs l) (putT s l fuel).1.k ∧ Nms (putT s l fuel).1.k ∧
      ((putT s l fuel).2.2 = true → MInv (putT s l fuel).1 (xs ++ [l])) ∧ ((putT s l fuel).2.2 = false → (putT s l fuel).1.t = s.t) ∧ (xs.length ≤ 60 → fuel < 0 → (putT s l fuel).2.2 = true) ∧ (putT s l fuel).2.1 ≤ 3 ∧
      ((putT s l fuel).2.1 = 0 → (putT s l fuel).2.2 = false ∧ (putT s l fuel).1 = s) ∧ ((putT s l fuel).2.2 = false → (putT s l fuel).2.1 = 0 ∨ ((putT s l fuel).2.1 : Int) = fuel)) := by
  constructor
  · intro he
    unfold putT
    rw [if_pos (.inl he)]
  · intro he
    obtain ⟨h1, h2, h3⟩ := setT_tab he
    rw [goodT_id h.r, h.t, ← lastL_snoc] at h3
    obtain ⟨a1, a2⟩ := add_some h.sd h2
    obtain ⟨f1, _⟩ := add_few s.k l
    have hrun := add_run h.sd h2 (if fuel < 0 then (addJ s.k l).1.length else fuel.toNat)
    have hr := h.sd.r
    refine ⟨h2, by rw [← h.t] at h3; exact h3, ?_⟩
    have e : putT s l fuel = planS s (addJ s.k l).1 (setT s.t l).1 fuel := by
      unfold putT
      rw [if_neg (by omega)]
    rw [e]
    unfold planS
    rw [good_id hr]
    have hroom : xs.length ≤ 60 → fuel < 0 → (doS (addJ s.k l).1 (if fuel < 0 then (addJ s.k l).1.length else fuel.toNat) s.k).2 = (addJ s.k l).1.length := by
      intro hx hf
      have := hrun.room (by have := nms_few hr h.nm; omega) (by have := h.sd.few.1; omega)
      rw [if_pos hf] at this ⊢
      rw [this, Nat.min_self]
    have hstop := hrun.stop
    have hz := hrun.z
    have hle := hrun.le
    have hc := hrun.c
    have hnm := hrun.nms h.nm
    have hall := hrun.all
    generalize hfu : (if fuel < 0 then (addJ s.k l).1.length else fuel.toNat) = fu at *
    generalize doS (addJ s.k l).1 fu s.k = r at *
    generalize (addJ s.k l).1 = cs at *
    by_cases hn : r.2 < cs.length
    · rw [if_pos hn]
      refine ⟨hc, hnm, fun h => by simp at h, fun _ => rfl, fun hx hf => by have := hroom hx hf; omega, by show r.2 ≤ 3; omega, fun h0 => ⟨rfl, ?_⟩, fun _ => ?_⟩
      · have := hz h0
        rw [this]
      · rcases hstop hn with h0 | h0
        · exact .inl h0
        · by_cases hf : fuel < 0
          · rw [if_pos hf] at hfu; omega
          · rw [if_neg hf] at hfu
            refine .inr ?_
            show ((r.2 : Nat) : Int) = fuel
            omega
    · rw [if_neg hn]
      refine ⟨hc, hnm, fun _ => ⟨hall (by omega), hnm, ?_, h1⟩, fun h => by simp at h, fun _ _ => rfl, by show r.2 ≤ 3; omega, fun h0 => ?_, fun h => by simp at h⟩
      · rw [← h.t] at h3
        exact h3
      · have h0 : r.2 = 0 := h0
        omega
/-- What is opened. -/
theorem openT_of {A : List LeaseR → Prop} {k : Dk} (h : Rec A k) (ht : ∀ zs, A zs → tableR (lastL zs) = true) : ∃ zs, A zs ∧ (openT k).2 = 0 ∧ (openT k).1.t = lastL zs ∧ Sd (openT k).1.k zs ∧ (Nms k → Nms (openT k).1.k) ∧ zs = (readJ (getS k nJ).1).1 := by
  obtain ⟨zs, z1, z2, z3, z4, z5⟩ := rec_open h
  obtain ⟨w, hw⟩ := z3.read
  have e : openT k = (⟨lastL zs, (openJ k).1⟩, 0) := by
    unfold openT
    rw [if_neg (fun h => h z2), hw]
    dsimp only
    rw [if_neg (by rw [ht zs z1]; decide)]
  rw [e]
  exact ⟨zs, z1, rfl, rfl, z3, z4, z5⟩
theorem open_sd {k : Dk} {xs : List LeaseR} (h : Sd k xs) (ht : tableR (lastL xs) = true) : (openT k).2 = 0 ∧ (openT k).1.t = lastL xs ∧ Sd (openT k).1.k xs ∧ (Nms k → Nms (openT k).1.k) := by
  obtain ⟨zs, rfl, h1, h2, h3, h4, _⟩ := openT_of h.c (fun zs e => by rw [e]; exact ht)
  exact ⟨h1, h2, h3, h4⟩
def mdS (s : StR) (l : LeaseR) : StR := if 1000 < l.key.length then s else if (setT s.t l).2 = 0 then (putT s l (-1)).1 else s
def mdL (ls : List LeaseR) : StR := ls.foldl mdS st0
theorem mdL_snoc (ls : List LeaseR) (l : LeaseR) : mdL (ls ++ [l]) = mdS (mdL ls) l := by simp [mdL]
theorem md_inv : ∀ ls : List LeaseR, ls.length ≤ 60 → ∃ xs, MInv (mdL ls) xs ∧ xs.length ≤ ls.length := by
  intro ls
  induction ls using snoc_ind with
  | h0 => exact fun _ => ⟨[], minv0, by simp⟩
  | hs ls l ih =>
    intro h
    simp only [List.length_append, List.length_cons, List.length_nil] at h
    obtain ⟨xs, h1, h2⟩ := ih (by omega)
    rw [mdL_snoc]
    unfold mdS
    split
    · exact ⟨xs, h1, by simp; omega⟩
    split
    · rename_i he
      obtain ⟨_, _, _, _, p1, _, p2, _⟩ := (put_any h1 l (-1)).2 he
      exact ⟨xs ++ [l], p1 (p2 (by omega) (by omega)), by simp; omega⟩
    · exact ⟨xs, h1, by simp; omega⟩
theorem get_mem {t : List LeaseR} (ht : tableR t = true) {b : LeaseR} (hb : b ∈ t) : getT t b.addr = (b, true) := by
  obtain ⟨_, _, hs⟩ := tab_iff.1 ht
  obtain ⟨i, hi, rfl⟩ := List.mem_iff_getElem.1 hb
  obtain ⟨hp, hia⟩ := srt_pos hs hi rfl
  unfold getT
  rw [goodT_id ht, hia, if_pos rfl, hp, List.getD_eq_getElem?_getD, List.getElem?_eq_getElem hi]
  rfl

def k20D : Dk := (doS knC1 2 dk0).1
def k20E : Dk := crashS knD1 [] false
theorem k20_1 : putT st0 knA 2 = (⟨[], k20D⟩, 2, false) := by kernel_rfl
theorem k20_2 : putT st0 knA 3 = (⟨[knA], knD1⟩, 3, true) := by kernel_rfl
theorem k20_3 : openT k20E = (⟨[knA], k20E⟩, 0) := by kernel_rfl
theorem tok0 : TOk [] := ⟨by simp, by simp⟩
theorem knows20 : Holds Tryz.prog 5 [] (.d (.bool true)) (fun _ => false) := by
  refine Holds.by (by kernel_rfl) Tryz.func5 (by kernel_rfl) rfl [3013001, 3002002, 3020001, 3005005, 3027005, 3008008] (by simp) (by kernel_rfl) (by kernel_rfl) rfl ?_
  conv in ccs _ => cbv
  have q1 := storePut st0 ok0 tok0 knA (by simp [knA]) 2
  have q2 := storePut st0 ok0 tok0 knA (by simp [knA]) 3
  have q3 := diskCrash knD1 (ok_right knR2) [] (by simp) false
  have q4 := storeOpen k20E (ok_right (crash_right _ _ _))
  rw [k20_1] at q1
  rw [k20_2] at q2
  rw [k20_3] at q4
  have e : crashS knD1 [] false = k20E := rfl
  rw [e] at q3
  have e0 : st0.d = .agg [.slice [], .slice [], .slice [], .slice []] := rfl
  have eA : knA.d = .agg [.int .i64 1, .int .i64 1, .int .i64 258, .str [105, 48, 49]] := rfl
  simp only [List.map_nil, e0] at q1 q2 q3
  dsimp only at q1 q2 q4
  simp only [StR.d, List.map_cons, List.map_nil, eA] at q1 q2 q4
  generalize k20D = D at *
  generalize k20E = E at *
  generalize knD1 = D1 at *
  clear e e0 eA
  simp (config := sc) (disch := first | exact dd | fail) [std]
  refine o_call rfl rfl q1 rfl rfl ?_
  simp (config := sc) (disch := first | exact dd | fail) [std]
  refine o_call rfl rfl q2 rfl rfl ?_
  simp (config := sc) (disch := first | exact dd | fail) [std]
  refine o_call rfl rfl q3 rfl rfl ?_
  simp (config := sc) (disch := first | exact dd | fail) [std, Dk.d]
  refine o_call rfl rfl q4 rfl rfl ?_
  simp (config := sc) (disch := first | exact dd | fail) [std]

end Go.Proofs.YtkbidfohcanijaaGreat
