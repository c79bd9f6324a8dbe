/- The laws of chapter 20, walked. -/
import Derived.Test.YtkbidfohcanijaaStore
import Derived.Test.YtkbidfohcanijaaKept
import Derived.Test.YtkbidfohcanijaaCleanP
namespace Go.Proofs.Ytkbidfohcanijaa
open BoEng Go
set_option maxRecDepth 100000
attribute [-simp] List.map_take List.map_drop List.length_flatMap
set_option linter.unusedSimpArgs false
set_option linter.unusedVariables false

/-- A store to which leases were put. -/
structure MInv (s : StR) (xs : List LeaseR) : Prop where
  sd : Sd s.k xs
  nm : Nms s.k
  t : s.t = lastL xs
  r : tableR s.t = true
theorem minv0 : MInv st0 [] := ⟨sd_nil, nms_nil, rfl, tab_nil⟩
theorem MInv.ok {s : StR} {xs : List LeaseR} (h : MInv s xs) : okK s.k ∧ TOk s.t := by
  obtain ⟨h1, h2, _⟩ := tab_iff.1 h.r
  exact ⟨ok_right h.sd.r, by omega, fun l hl => by have := key_len (right_rng (h2 l hl)).2.2.2; omega⟩
/-- What becomes of a store when a lease is put. -/
theorem put_any {s : StR} {xs : List LeaseR} (h : MInv s xs) (l : LeaseR) (fuel : Int) :
    ((setT s.t l).2 ≠ 0 → putT s l fuel = (s, 0, false)) ∧ ((setT s.t l).2 = 0 → rightL l = true ∧ (setT s.t l).1 = lastL (xs ++ [l]) ∧ Rec (oneMore xs l) (putT s l fuel).1.k ∧ Nms (putT s l fuel).1.k ∧
      ((putT s l fuel).2.2 = true → MInv (putT s l fuel).1 (xs ++ [l])) ∧ ((putT s l fuel).2.2 = false → (putT s l fuel).1.t = s.t) ∧ (xs.length ≤ 60 → fuel < 0 → (putT s l fuel).2.2 = true) ∧ (putT s l fuel).2.1 ≤ 3 ∧
      ((putT s l fuel).2.1 = 0 → (putT s l fuel).2.2 = false ∧ (putT s l fuel).1 = s) ∧ ((putT s l fuel).2.2 = false → (putT s l fuel).2.1 = 0 ∨ ((putT s l fuel).2.1 : Int) = fuel)) := by
  constructor
  · intro he
    unfold putT
    rw [if_pos (.inl he)]
  · intro he
    obtain ⟨h1, h2, h3⟩ := setT_tab he
    rw [goodT_id h.r, h.t, ← lastL_snoc] at h3
    obtain ⟨a1, a2⟩ := add_some h.sd h2
    obtain ⟨f1, _⟩ := add_few s.k l
    have hrun := add_run h.sd h2 (if fuel < 0 then (addJ s.k l).1.length else fuel.toNat)
    have hr := h.sd.r
    refine ⟨h2, by rw [← h.t] at h3; exact h3, ?_⟩
    have e : putT s l fuel = planS s (addJ s.k l).1 (setT s.t l).1 fuel := by
      unfold putT
      rw [if_neg (by omega)]
    rw [e]
    unfold planS
    rw [good_id hr]
    have hroom : xs.length ≤ 60 → fuel < 0 → (doS (addJ s.k l).1 (if fuel < 0 then (addJ s.k l).1.length else fuel.toNat) s.k).2 = (addJ s.k l).1.length := by
      intro hx hf
      have := hrun.room (by have := nms_few hr h.nm; omega) (by have := h.sd.few.1; omega)
      rw [if_pos hf] at this ⊢
      rw [this, Nat.min_self]
    have hstop := hrun.stop
    have hz := hrun.z
    have hle := hrun.le
    have hc := hrun.c
    have hnm := hrun.nms h.nm
    have hall := hrun.all
    generalize hfu : (if fuel < 0 then (addJ s.k l).1.length else fuel.toNat) = fu at *
    generalize doS (addJ s.k l).1 fu s.k = r at *
    generalize (addJ s.k l).1 = cs at *
    by_cases hn : r.2 < cs.length
    · rw [if_pos hn]
      refine ⟨hc, hnm, fun h => by simp at h, fun _ => rfl, fun hx hf => by have := hroom hx hf; omega, by show r.2 ≤ 3; omega, fun h0 => ⟨rfl, ?_⟩, fun _ => ?_⟩
      · have := hz h0
        rw [this]
      · rcases hstop hn with h0 | h0
        · exact .inl h0
        · by_cases hf : fuel < 0
          · rw [if_pos hf] at hfu; omega
          · rw [if_neg hf] at hfu
            refine .inr ?_
            show ((r.2 : Nat) : Int) = fuel
            omega
    · rw [if_neg hn]
      refine ⟨hc, hnm, fun _ => ⟨hall (by omega), hnm, ?_, h1⟩, fun h => by simp at h, fun _ _ => rfl, by show r.2 ≤ 3; omega, fun h0 => ?_, fun h => by simp at h⟩
      · rw [← h.t] at h3
        exact h3
      · have h0 : r.2 = 0 := h0
        omega
/-- What is opened. -/
theorem openT_of {A : List LeaseR → Prop} {k : Dk} (h : Rec A k) (ht : ∀ zs, A zs → tableR (lastL zs) = true) : ∃ zs, A zs ∧ (openT k).2 = 0 ∧ (openT k).1.t = lastL zs ∧ Sd (openT k).1.k zs ∧ (Nms k → Nms (openT k).1.k) ∧ zs = (readJ (getS k nJ).1).1 := by
  obtain ⟨zs, z1, z2, z3, z4, z5⟩ := rec_open h
  obtain ⟨w, hw⟩ := z3.read
  have e : openT k = (⟨lastL zs, (openJ k).1⟩, 0) := by
    unfold openT
    rw [if_neg (fun h => h z2), hw]
    dsimp only
    rw [if_neg (by rw [ht zs z1]; decide)]
  rw [e]
  exact ⟨zs, z1, rfl, rfl, z3, z4, z5⟩
theorem open_sd {k : Dk} {xs : List LeaseR} (h : Sd k xs) (ht : tableR (lastL xs) = true) : (openT k).2 = 0 ∧ (openT k).1.t = lastL xs ∧ Sd (openT k).1.k xs ∧ (Nms k → Nms (openT k).1.k) := by
  obtain ⟨zs, rfl, h1, h2, h3, h4, _⟩ := openT_of h.c (fun zs e => by rw [e]; exact ht)
  exact ⟨h1, h2, h3, h4⟩
def mdS (s : StR) (l : LeaseR) : StR := if 1000 < l.key.length then s else if (setT s.t l).2 = 0 then (putT s l (-1)).1 else s
def mdL (ls : List LeaseR) : StR := ls.foldl mdS st0
theorem mdL_snoc (ls : List LeaseR) (l : LeaseR) : mdL (ls ++ [l]) = mdS (mdL ls) l := by simp [mdL]
theorem md_inv : ∀ ls : List LeaseR, ls.length ≤ 60 → ∃ xs, MInv (mdL ls) xs ∧ xs.length ≤ ls.length := by
  intro ls
  induction ls using snoc_ind with
  | h0 => exact fun _ => ⟨[], minv0, by simp⟩
  | hs ls l ih =>
    intro h
    simp only [List.length_append, List.length_cons, List.length_nil] at h
    obtain ⟨xs, h1, h2⟩ := ih (by omega)
    rw [mdL_snoc]
    unfold mdS
    split
    · exact ⟨xs, h1, by simp; omega⟩
    split
    · rename_i he
      obtain ⟨_, _, _, _, p1, _, p2, _⟩ := (put_any h1 l (-1)).2 he
      exact ⟨xs ++ [l], p1 (p2 (by omega) (by omega)), by simp; omega⟩
    · exact ⟨xs, h1, by simp; omega⟩
theorem get_mem {t : List LeaseR} (ht : tableR t = true) {b : LeaseR} (hb : b ∈ t) : getT t b.addr = (b, true) := by
  obtain ⟨_, _, hs⟩ := tab_iff.1 ht
  obtain ⟨i, hi, rfl⟩ := List.mem_iff_getElem.1 hb
  obtain ⟨hp, hia⟩ := srt_pos hs hi rfl
  unfold getT
  rw [goodT_id ht, hia, if_pos rfl, hp, List.getD_eq_getElem?_getD, List.getElem?_eq_getElem hi]
  rfl

def mdI (ls : List LeaseR) (i : Nat) (S : PS) : Prop :=
  i ≤ ls.length ∧ i ≤ 12 ∧ S.t 0 = .d (.slice (ls.map LeaseR.d)) ∧ S.t 2 = .ptr (FO + 2) 1 0 ∧ S.t 4 = .ptr (FO + 4) 1 0 ∧ S.t 5 = .d (.int .i64 i) ∧ S.fo = FO ∧
  S.gen (FO + 2) = 1 ∧ S.box (FO + 2) = [.d (.slice []), .d (.slice []), .d (.slice []), .d (.slice [])] ∧ S.gen (FO + 4) = 1 ∧ S.box (FO + 4) = (cells (mdL (ls.take i)).d).map .d
theorem law20Made (ls : List LeaseR) (hl : ls.length ≤ 9223372036854775807 ∧ ∀ l ∈ ls, l.key.length ≤ 9223372036854775807) :
    Holds Try.prog 33 [.d (.slice (ls.map LeaseR.d))] (.tup [.d (mdL (ls.take 12)).d, .d (.bool true)]) (fun _ => false) := by
  refine Holds.by (by kernel_rfl) Try.func33 (by kernel_rfl) rfl [50033, 50034, 50042, 50043, 3039004, 3008008] (by simp) (by kernel_rfl) (by kernel_rfl) rfl ?_
  conv in ccs _ => cbv
  obtain ⟨hl1, hl2⟩ := hl
  simp (config := sc) (disch := first | exact dd | fail) [std]
  refine lp (mdI ls) (fun i => 12 - i) 0 ⟨by omega, by omega, by simp, by simp, by simp, by simp, by simp, by simp, by simp, by simp, by simp [mdL, st0, dk0]⟩ ?_
  rintro i S ⟨hi, hi12, e0, e2, e4, e5, efo, g2, b2, g4, b4⟩
  by_cases hlt : i < ls.length ∧ i < 12
  · obtain ⟨hlt, h12⟩ := hlt
    have k6 : (i : Int) < ls.length := by omega
    have k12 : (i : Int) < 12 := by omega
    have hn : nth ls (i : Int) = ls[i] := nth_nat hlt
    have hti : ls.take (i + 1) = ls.take i ++ [ls[i]] := List.take_succ_eq_append_getElem hlt
    have hkl := hl2 _ (List.getElem_mem hlt)
    have hmd := mdL_snoc (ls.take i) ls[i]
    rw [← hti] at hmd
    obtain ⟨xs, hinv, hxl⟩ := md_inv (ls.take i) (by simp; omega)
    simp only [List.length_take] at hxl
    clear hti
    generalize ls[i] = a at *
    generalize hd2 : mdL (ls.take (i + 1)) = s2 at *
    generalize mdL (ls.take i) = s at *
    unfold mdS at hmd
    by_cases hk : 1000 < a.key.length
    · have hk' : (1000 : Int) < a.key.length := by omega
      rw [if_pos hk] at hmd
      simp (config := sc) (disch := first | exact dd | fail) [std, e0, e2, e4, e5, efo, g2, b2, g4, b4, k6, k12, hn, hk']
      exact nxt_of (i + 1) ⟨by omega, by omega, by simp (config := sc) (disch := first | exact dd | fail) [std, e0], by simp (config := sc) (disch := first | exact dd | fail) [std, e2], by simp (config := sc) (disch := first | exact dd | fail) [std, e4], by simp (config := sc) (disch := first | exact dd | fail) [std], by simp (config := sc) (disch := first | exact dd | fail) [std, efo], by simp (config := sc) (disch := first | exact dd | fail) [std, g2], by simp (config := sc) (disch := first | exact dd | fail) [std, b2], by simp (config := sc) (disch := first | exact dd | fail) [std, g4], by rw [hd2, hmd]; simp (config := sc) (disch := first | exact dd | fail) [std, b4]⟩ (by omega)
    · have hk' : ¬ (1000 : Int) < a.key.length := by omega
      rw [if_neg hk] at hmd
      obtain ⟨ok1, ok2⟩ := hinv.ok
      have q1 := ref12Set s.t a ok2.1 (fun l hl => by have := ok2.2 l hl; omega) (by omega)
      have q2 := storePut s ok1 ok2 a (by omega) (-1)
      by_cases he : (setT s.t a).2 = 0
      · obtain ⟨_, _, _, _, _, _, p2, _⟩ := (put_any hinv a (-1)).2 he
        have p2 := p2 (by omega) (by omega)
        rw [if_pos he] at hmd
        rw [p2] at q2
        rw [he] at q1
        generalize setT s.t a = r at *
        generalize putT s a (-1) = p at *
        simp (config := sc) (disch := first | exact dd | fail) [std, e0, e2, e4, e5, efo, g2, b2, g4, b4, k6, k12, hn, hk', StR.d]
        refine o_call rfl rfl q1 rfl rfl ?_
        simp (config := sc) (disch := first | exact dd | fail) [std, e0, e2, e4, e5, efo, g2, b2, g4, b4, hn, StR.d]
        refine o_call rfl rfl q2 rfl rfl ?_
        simp (config := sc) (disch := first | exact dd | fail) [std, e0, e2, e4, e5, efo, g2, b2, g4, b4, hn, StR.d]
        exact nxt_of (i + 1) ⟨by omega, by omega, by simp (config := sc) (disch := first | exact dd | fail) [std, e0], by simp (config := sc) (disch := first | exact dd | fail) [std, e2], by simp (config := sc) (disch := first | exact dd | fail) [std, e4], by simp (config := sc) (disch := first | exact dd | fail) [std], by simp (config := sc) (disch := first | exact dd | fail) [std, efo], by simp (config := sc) (disch := first | exact dd | fail) [std, g2, efo], by simp (config := sc) (disch := first | exact dd | fail) [std, b2, efo], by simp (config := sc) (disch := first | exact dd | fail) [std, g4, efo], by rw [hd2, hmd]; simp (config := sc) (disch := first | exact dd | fail) [std, b4, efo]⟩ (by omega)
      · rw [if_neg he] at hmd
        have hp := (put_any hinv a (-1)).1 he
        rw [hp] at q2
        generalize setT s.t a = r at *
        simp (config := sc) (disch := first | exact dd | fail) [std, e0, e2, e4, e5, efo, g2, b2, g4, b4, k6, k12, hn, hk', StR.d]
        refine o_call rfl rfl q1 rfl rfl ?_
        simp (config := sc) (disch := first | exact dd | fail) [std, e0, e2, e4, e5, efo, g2, b2, g4, b4, hn, StR.d]
        refine o_call rfl rfl q2 rfl rfl ?_
        simp (config := sc) (disch := first | exact dd | fail) [std, e0, e2, e4, e5, efo, g2, b2, g4, b4, hn, StR.d, he]
        exact nxt_of (i + 1) ⟨by omega, by omega, by simp (config := sc) (disch := first | exact dd | fail) [std, e0], by simp (config := sc) (disch := first | exact dd | fail) [std, e2], by simp (config := sc) (disch := first | exact dd | fail) [std, e4], by simp (config := sc) (disch := first | exact dd | fail) [std], by simp (config := sc) (disch := first | exact dd | fail) [std, efo], by simp (config := sc) (disch := first | exact dd | fail) [std, g2, efo], by simp (config := sc) (disch := first | exact dd | fail) [std, b2, efo], by simp (config := sc) (disch := first | exact dd | fail) [std, g4, efo], by rw [hd2, hmd]; simp (config := sc) (disch := first | exact dd | fail) [std, b4, efo]⟩ (by omega)
  · have ht : ls.take i = ls.take 12 := by
      by_cases h : i < ls.length
      · have : i = 12 := by omega
        rw [this]
      · rw [List.take_of_length_le (by omega), List.take_of_length_le (by omega)]
    rw [ht] at b4
    generalize mdL (ls.take 12) = s at *
    by_cases hil : (i : Int) < ls.length
    · have h12 : ¬ (i : Int) < 12 := by omega
      simp (config := sc) (disch := first | exact dd | fail) [std, e0, e2, e4, e5, efo, g2, b2, g4, b4, hil, h12, StR.d]
    · simp (config := sc) (disch := first | exact dd | fail) [std, e0, e2, e4, e5, efo, g2, b2, g4, b4, hil, StR.d]

def k20D : Dk := (doS knC1 2 dk0).1
def k20E : Dk := crashS knD1 [] false
theorem k20_1 : putT st0 knA 2 = (⟨[], k20D⟩, 2, false) := by kernel_rfl
theorem k20_2 : putT st0 knA 3 = (⟨[knA], knD1⟩, 3, true) := by kernel_rfl
theorem k20_3 : openT k20E = (⟨[knA], k20E⟩, 0) := by kernel_rfl
theorem tok0 : TOk [] := ⟨by simp, by simp⟩
theorem knows20 : Holds Try.prog 28 [] (.d (.bool true)) (fun _ => false) := by
  refine Holds.by (by kernel_rfl) Try.func28 (by kernel_rfl) rfl [3013001, 3002002, 3020001, 3005005, 3027005, 3008008] (by simp) (by kernel_rfl) (by kernel_rfl) rfl ?_
  conv in ccs _ => cbv
  have q1 := storePut st0 ok0 tok0 knA (by simp [knA]) 2
  have q2 := storePut st0 ok0 tok0 knA (by simp [knA]) 3
  have q3 := diskCrash knD1 (ok_right knR2) [] (by simp) false
  have q4 := storeOpen k20E (ok_right (crash_right _ _ _))
  rw [k20_1] at q1
  rw [k20_2] at q2
  rw [k20_3] at q4
  have e : crashS knD1 [] false = k20E := rfl
  rw [e] at q3
  have e0 : st0.d = .agg [.slice [], .slice [], .slice [], .slice []] := rfl
  have eA : knA.d = .agg [.int .i64 1, .int .i64 1, .int .i64 258, .str [105, 48, 49]] := rfl
  simp only [List.map_nil, e0] at q1 q2 q3
  dsimp only at q1 q2 q4
  simp only [StR.d, List.map_cons, List.map_nil, eA] at q1 q2 q4
  generalize k20D = D at *
  generalize k20E = E at *
  generalize knD1 = D1 at *
  clear e e0 eA
  simp (config := sc) (disch := first | exact dd | fail) [std]
  refine o_call rfl rfl q1 rfl rfl ?_
  simp (config := sc) (disch := first | exact dd | fail) [std]
  refine o_call rfl rfl q2 rfl rfl ?_
  simp (config := sc) (disch := first | exact dd | fail) [std]
  refine o_call rfl rfl q3 rfl rfl ?_
  simp (config := sc) (disch := first | exact dd | fail) [std, Dk.d]
  refine o_call rfl rfl q4 rfl rfl ?_
  simp (config := sc) (disch := first | exact dd | fail) [std]

theorem lawSOpens (k : Dk) (hk : DkOk k) : Holds Try.prog 8 [.d k.d] (.d (.bool true)) (fun _ => false) := by
  refine Holds.by (by kernel_rfl) Try.func8 (by kernel_rfl) rfl [20001, 50011, 50016] (by simp) (by kernel_rfl) (by kernel_rfl) rfl ?_
  conv in ccs _ => cbv
  have g1 := great08 k hk
  cases h1 : smallK k with
  | false =>
    rw [h1] at g1
    simp (config := sc) (disch := first | exact dd | fail) [std, Dk.d]
    refine o_call rfl rfl g1 rfl rfl ?_
    simp (config := sc) (disch := first | exact dd | fail) [std]
    refine o_call rfl rfl knows20 rfl rfl ?_
    simp (config := sc) (disch := first | exact dd | fail) [std]
  | true =>
    rw [h1] at g1
    have ok := small_ok h1 hk
    have q1 := storeOpen k ok
    have q2 := ref20Open k ok
    have q3 := lawAs k ok.1
    have hrk : rightK (openT k).1.k = true ∧ (openT k).1.t.length ≤ 1000000 := by
      unfold openT
      split
      · exact ⟨right0, by simp [st0]⟩
      split
      · exact ⟨right0, by simp [st0]⟩
      · have := lastL_len (readJ (getS (openJ k).1 [106]).1).1
        have := read_few (openJ k).1
        exact ⟨open_right k, by dsimp only; omega⟩
    generalize openT k = r at *
    have ok2 := ok_right hrk.1
    have q4 := law20As r.1 ok2.1
    have q5 := ref20Same r.1 ok2 hrk.2
    simp (config := sc) (disch := first | exact dd | fail) [std, Dk.d]
    refine o_call rfl rfl g1 rfl rfl ?_
    simp (config := sc) (disch := first | exact dd | fail) [std]
    refine o_call rfl rfl q1 rfl rfl ?_
    simp (config := sc) (disch := first | exact dd | fail) [std]
    refine o_call rfl rfl q3 rfl rfl ?_
    simp (config := sc) (disch := first | exact dd | fail) [std, Dk.d]
    refine o_call rfl rfl q2 rfl rfl ?_
    simp (config := sc) (disch := first | exact dd | fail) [std]
    refine o_call rfl rfl q4 rfl rfl ?_
    simp (config := sc) (disch := first | exact dd | fail) [std, StR.d]
    refine o_call rfl rfl q5 rfl rfl ?_
    simp (config := sc) (disch := first | exact dd | fail) [std]
    refine o_call rfl rfl knows20 rfl rfl ?_
    simp (config := sc) (disch := first | exact dd | fail) [std]

theorem lawSCuts (ls : List LeaseR) (more : LeaseR) (fuel : Int) (keep : List Int) (dir : Bool) (hl : ls.length ≤ 9223372036854775807 ∧ ∀ l ∈ ls, l.key.length ≤ 9223372036854775807) (hm : more.key.length ≤ 9223372036854775807) :
    Holds Try.prog 9 [.d (.slice (ls.map LeaseR.d)), .d more.d, .d (.int .i64 fuel), .d (.slice (keep.map intD)), .d (.bool dir)] (.d (.bool true)) (fun _ => false) := by
  refine Holds.by (by kernel_rfl) Try.func9 (by kernel_rfl) rfl [20006, 3036011, 50037, 3013013, 3045013, 3016016] (by simp) (by kernel_rfl) (by kernel_rfl) rfl ?_
  conv in ccs _ => cbv
  by_cases c1 : (100 : Int) < keep.length
  · simp (config := sc) (disch := first | exact dd | fail) [std, c1]
    refine o_call rfl rfl knows20 rfl rfl ?_
    simp (config := sc) (disch := first | exact dd | fail) [std]
  by_cases c2 : (1000 : Int) < more.key.length
  · simp (config := sc) (disch := first | exact dd | fail) [std, c1, c2]
    refine o_call rfl rfl knows20 rfl rfl ?_
    simp (config := sc) (disch := first | exact dd | fail) [std]
  have q1 := law20Made ls hl
  obtain ⟨xs, hinv, hxl⟩ := md_inv (ls.take 12) (by simp; omega)
  simp only [List.length_take] at hxl
  generalize mdL (ls.take 12) = s at *
  obtain ⟨ok1, ok2⟩ := hinv.ok
  have q2 := storePut s ok1 ok2 more (by omega) fuel
  have q3 := ref12Set s.t more ok2.1 (fun l hl => by have := ok2.2 l hl; omega) (by omega)
  have htl : s.t.length ≤ 64 := (tab_iff.1 hinv.r).1
  by_cases he : (setT s.t more).2 = 0
  · obtain ⟨p0, p1, p2, p3, p4, p5, _⟩ := (put_any hinv more fuel).2 he
    have hst := (setT_tab he).1
    rw [p1] at hst
    have hrc := rec_crash p2 keep dir
    have q4 := diskCrash (putT s more fuel).1.k (ok_right p2.r) keep (by omega) dir
    obtain ⟨zs, z1, z2, z3, z4, _, z5⟩ := openT_of hrc (fun zs hz => by
      rcases hz with rfl | rfl
      · rw [← hinv.t]; exact hinv.r
      · exact hst)
    have q5 := storeOpen (crashS (putT s more fuel).1.k keep dir) (ok_right hrc.r)
    have hkn : (putT s more fuel).2.2 = true → zs = xs ++ [more] := fun h => by
      have := rec_get (sd_crash (p4 h).sd keep dir).c
      rw [z5]
      exact this.1
    have hwl := (tab_iff.1 hst).1
    rw [he, p1] at q3
    rw [z2] at q5
    generalize putT s more fuel = p at *
    obtain ⟨x, n, kn⟩ := p
    dsimp only at q2 q4 q5 hkn
    generalize crashS x.k keep dir = c at *
    generalize (openT c).1 = y at *
    by_cases hz : y.t = lastL (xs ++ [more])
    · have q6 := ref10SameLeases y.t (lastL (xs ++ [more])) (by rw [hz]; omega) (by omega)
      have hdt : decide (y.t = lastL (xs ++ [more])) = true := by simp [hz]
      rw [hdt] at q6
      generalize lastL (xs ++ [more]) = wt at *
      cases kn <;> (
        simp (config := sc) (disch := first | exact dd | fail) [std, c1, c2]
        refine o_call rfl rfl q1 rfl rfl ?_
        simp (config := sc) (disch := first | exact dd | fail) [std, StR.d]
        refine o_call rfl rfl q2 rfl rfl ?_
        simp (config := sc) (disch := first | exact dd | fail) [std, StR.d]
        refine o_call rfl rfl q4 rfl rfl ?_
        simp (config := sc) (disch := first | exact dd | fail) [std, Dk.d]
        refine o_call rfl rfl q5 rfl rfl ?_
        simp (config := sc) (disch := first | exact dd | fail) [std, StR.d]
        refine o_call rfl rfl q3 rfl rfl ?_
        simp (config := sc) (disch := first | exact dd | fail) [std, StR.d]
        refine o_call rfl rfl q6 rfl rfl ?_
        simp (config := sc) (disch := first | exact dd | fail) [std]
        refine o_call rfl rfl knows20 rfl rfl ?_
        simp (config := sc) (disch := first | exact dd | fail) [std]
      )
    · have hzx : zs = xs := by
        rcases z1 with h | h
        · exact h
        · rw [z3, h] at hz; exact absurd rfl hz
      have hk0 : kn = false := by
        cases hk : kn with
        | false => rfl
        | true =>
          have := hkn hk
          rw [z3, this] at hz
          exact absurd rfl hz
      have hyt : y.t = s.t := by rw [z3, hzx, hinv.t]
      have q6 := ref10SameLeases y.t (lastL (xs ++ [more])) (by rw [hyt]; omega) (by omega)
      have hdt : decide (y.t = lastL (xs ++ [more])) = false := by simp [hz]
      rw [hdt] at q6
      have q7 := ref10SameLeases y.t s.t (by rw [hyt]; omega) (by omega)
      have hdt2 : decide (y.t = s.t) = true := by simp [hyt]
      rw [hdt2] at q7
      subst hk0
      generalize lastL (xs ++ [more]) = wt at *
      simp (config := sc) (disch := first | exact dd | fail) [std, c1, c2]
      refine o_call rfl rfl q1 rfl rfl ?_
      simp (config := sc) (disch := first | exact dd | fail) [std, StR.d]
      refine o_call rfl rfl q2 rfl rfl ?_
      simp (config := sc) (disch := first | exact dd | fail) [std, StR.d]
      refine o_call rfl rfl q4 rfl rfl ?_
      simp (config := sc) (disch := first | exact dd | fail) [std, Dk.d]
      refine o_call rfl rfl q5 rfl rfl ?_
      simp (config := sc) (disch := first | exact dd | fail) [std, StR.d]
      refine o_call rfl rfl q3 rfl rfl ?_
      simp (config := sc) (disch := first | exact dd | fail) [std, StR.d]
      refine o_call rfl rfl q6 rfl rfl ?_
      simp (config := sc) (disch := first | exact dd | fail) [std]
      refine o_call rfl rfl q7 rfl rfl ?_
      simp (config := sc) (disch := first | exact dd | fail) [std]
      refine o_call rfl rfl knows20 rfl rfl ?_
      simp (config := sc) (disch := first | exact dd | fail) [std]
  · have hp := (put_any hinv more fuel).1 he
    rw [hp] at q2
    have hsc := sd_crash hinv.sd keep dir
    have q4 := diskCrash s.k ok1 keep (by omega) dir
    obtain ⟨z1, z2, _⟩ := open_sd hsc (by rw [← hinv.t]; exact hinv.r)
    have q5 := storeOpen (crashS s.k keep dir) (ok_right hsc.r)
    rw [z1] at q5
    rw [← hinv.t] at z2
    generalize crashS s.k keep dir = c at *
    generalize (openT c).1 = y at *
    have q7 := ref10SameLeases y.t s.t (by rw [z2]; omega) (by omega)
    have hdt2 : decide (y.t = s.t) = true := by simp [z2]
    rw [hdt2] at q7
    generalize setT s.t more = w at *
    dsimp only at q2
    simp (config := sc) (disch := first | exact dd | fail) [std, c1, c2]
    refine o_call rfl rfl q1 rfl rfl ?_
    simp (config := sc) (disch := first | exact dd | fail) [std, StR.d]
    refine o_call rfl rfl q2 rfl rfl ?_
    simp (config := sc) (disch := first | exact dd | fail) [std, StR.d]
    refine o_call rfl rfl q4 rfl rfl ?_
    simp (config := sc) (disch := first | exact dd | fail) [std, Dk.d]
    refine o_call rfl rfl q5 rfl rfl ?_
    simp (config := sc) (disch := first | exact dd | fail) [std, StR.d]
    refine o_call rfl rfl q3 rfl rfl ?_
    simp (config := sc) (disch := first | exact dd | fail) [std, StR.d, he]
    refine o_call rfl rfl q7 rfl rfl ?_
    simp (config := sc) (disch := first | exact dd | fail) [std]
    refine o_call rfl rfl knows20 rfl rfl ?_
    simp (config := sc) (disch := first | exact dd | fail) [std]

theorem lawSAgain (ls : List LeaseR) (keep : List Int) (dir : Bool) (hl : ls.length ≤ 9223372036854775807 ∧ ∀ l ∈ ls, l.key.length ≤ 9223372036854775807) :
    Holds Try.prog 10 [.d (.slice (ls.map LeaseR.d)), .d (.slice (keep.map intD)), .d (.bool dir)] (.d (.bool true)) (fun _ => false) := by
  refine Holds.by (by kernel_rfl) Try.func10 (by kernel_rfl) rfl [3024007, 3009009, 3030007, 3011011] (by simp) (by kernel_rfl) (by kernel_rfl) rfl ?_
  conv in ccs _ => cbv
  by_cases c1 : (100 : Int) < keep.length
  · simp (config := sc) (disch := first | exact dd | fail) [std, c1]
    refine o_call rfl rfl knows20 rfl rfl ?_
    simp (config := sc) (disch := first | exact dd | fail) [std]
  have q1 := law20Made ls hl
  obtain ⟨xs, hinv, hxl⟩ := md_inv (ls.take 12) (by simp; omega)
  generalize mdL (ls.take 12) = s at *
  obtain ⟨ok1, ok2⟩ := hinv.ok
  have htl : s.t.length ≤ 64 := (tab_iff.1 hinv.r).1
  have hr := hinv.r
  rw [hinv.t] at hr
  obtain ⟨a1, a2, _⟩ := open_sd hinv.sd hr
  have hsc := sd_crash hinv.sd keep dir
  obtain ⟨b1, b2, _⟩ := open_sd hsc hr
  rw [← hinv.t] at a2 b2
  have q2 := storeOpen s.k ok1
  have q3 := diskCrash s.k ok1 keep (by omega) dir
  have q4 := storeOpen (crashS s.k keep dir) (ok_right hsc.r)
  rw [a1] at q2
  rw [b1] at q4
  generalize crashS s.k keep dir = c at *
  generalize (openT s.k).1 = y at *
  generalize (openT c).1 = z at *
  have q5 := ref10SameLeases s.t s.t (by omega) (by omega)
  have hdt : decide (s.t = s.t) = true := by simp
  rw [hdt] at q5
  simp (config := sc) (disch := first | exact dd | fail) [std, c1]
  refine o_call rfl rfl q1 rfl rfl ?_
  simp (config := sc) (disch := first | exact dd | fail) [std, StR.d]
  refine o_call rfl rfl q2 rfl rfl ?_
  simp (config := sc) (disch := first | exact dd | fail) [std, StR.d]
  refine o_call rfl rfl q3 rfl rfl ?_
  simp (config := sc) (disch := first | exact dd | fail) [std, Dk.d]
  refine o_call rfl rfl q4 rfl rfl ?_
  simp (config := sc) (disch := first | exact dd | fail) [std, StR.d, a2, b2]
  refine o_call rfl rfl q5 rfl rfl ?_
  simp (config := sc) (disch := first | exact dd | fail) [std]
  refine o_call rfl rfl q5 rfl rfl ?_
  simp (config := sc) (disch := first | exact dd | fail) [std]
  refine o_call rfl rfl knows20 rfl rfl ?_
  simp (config := sc) (disch := first | exact dd | fail) [std]

def lz : LeaseR := ⟨5, 1, 9, [105, 48, 57]⟩
/-- What becomes of a store when its journal is made short. -/
theorem clean_any {s : StR} {xs : List LeaseR} (h : MInv s xs) (hx : xs.length ≤ 12) (many fuel : Int) :
    (cleanT s many fuel).1.t = s.t ∧ Rec (oneOr xs s.t) (cleanT s many fuel).1.k ∧ Nms (cleanT s many fuel).1.k := by
  have hsame : Rec (oneOr xs s.t) s.k := h.sd.c.mono fun z hz => .inl hz
  obtain ⟨t1, t2, t3⟩ := tab_iff.1 h.r
  have hlen : s.t.length ≤ 12 := by rw [h.t]; exact Nat.le_trans (lastL_len xs) hx
  have hB := bytes_few t2
  unfold cleanT
  split
  · exact ⟨rfl, hsame, h.nm⟩
  split
  · exact ⟨rfl, hsame, h.nm⟩
  have hrun := clean_run h.sd h.nm t2 (by omega) (if fuel < 0 then (changesC s.k s.t).1.length else fuel.toNat)
  unfold planS
  rw [good_id h.sd.c.r]
  have hc := hrun.c
  have hnm := hrun.nms
  generalize (if fuel < 0 then (changesC s.k s.t).1.length else fuel.toNat) = fu at *
  generalize doS (changesC s.k s.t).1 fu s.k = r at *
  by_cases hn : r.2 < (changesC s.k s.t).1.length
  · rw [if_pos hn]; exact ⟨rfl, hc, hnm⟩
  · rw [if_neg hn]; exact ⟨rfl, hc, hnm⟩
theorem lz_right : rightL lz = true := by kernel_rfl
/-- One lease more is put then as ever. -/
theorem put_lz {y : StR} {zs : List LeaseR} (h : MInv y zs) (hz : zs.length ≤ 12) : (putT y lz (-1)).2.2 = true ∧ tableR (putT y lz (-1)).1.t = true ∧ getT (putT y lz (-1)).1.t 5 = (lz, true) := by
  have hlen : y.t.length ≤ 12 := by rw [h.t]; exact Nat.le_trans (lastL_len zs) hz
  have he : (setT y.t lz).2 = 0 := by
    unfold setT
    rw [if_neg (by rw [lz_right]; decide), if_neg (fun hc => by have := hc.2; rw [goodT_id h.r] at this; omega)]
  obtain ⟨_, _, _, _, p1, _, p2, _⟩ := (put_any h lz (-1)).2 he
  have p2 := p2 (by omega) (by omega)
  have hi := p1 p2
  refine ⟨p2, hi.r, ?_⟩
  refine get_mem (b := lz) hi.r ?_
  rw [hi.t, lastL_snoc]
  exact ((insL_spec (lastL_spec zs).1 lz).2 lz).2 (.inl rfl)
theorem lawSLoses (ls : List LeaseR) (many fuel : Int) (keep : List Int) (dir : Bool) (hl : ls.length ≤ 9223372036854775807 ∧ ∀ l ∈ ls, l.key.length ≤ 9223372036854775807) :
    Holds Try.prog 11 [.d (.slice (ls.map LeaseR.d)), .d (.int .i64 many), .d (.int .i64 fuel), .d (.slice (keep.map intD)), .d (.bool dir)] (.d (.bool true)) (fun _ => false) := by
  refine Holds.by (by kernel_rfl) Try.func11 (by kernel_rfl) rfl [3034011, 3013013, 3043013, 3016016, 3074016, 3075018, 3019019, 3082019, 3022022] (by simp) (by kernel_rfl) (by kernel_rfl) rfl ?_
  conv in ccs _ => cbv
  by_cases c1 : (100 : Int) < keep.length
  · simp (config := sc) (disch := first | exact dd | fail) [std, c1]
    refine o_call rfl rfl knows20 rfl rfl ?_
    simp (config := sc) (disch := first | exact dd | fail) [std]
  have q1 := law20Made ls hl
  obtain ⟨xs, hinv, hxl⟩ := md_inv (ls.take 12) (by simp; omega)
  simp only [List.length_take] at hxl
  generalize mdL (ls.take 12) = s at *
  obtain ⟨ok1, ok2⟩ := hinv.ok
  have htl : s.t.length ≤ 64 := (tab_iff.1 hinv.r).1
  have htx : s.t.length ≤ xs.length := by rw [hinv.t]; exact lastL_len xs
  have q2 := storeClean s ok1 ok2 (by omega) many fuel
  obtain ⟨c2, c3, c4⟩ := clean_any hinv (by omega) many fuel
  generalize cleanT s many fuel = x at *
  have hagain : lastL s.t = s.t := by rw [hinv.t]; exact lastL_again xs
  have hrc := rec_crash c3 keep dir
  have hnm := nms_crash c4 keep dir
  have q4 := diskCrash x.1.k (ok_right c3.r) keep (by omega) dir
  have htab : ∀ zs, oneOr xs s.t zs → lastL zs = s.t ∧ zs.length ≤ 12 := fun zs hz => by
    rcases hz with rfl | rfl
    · exact ⟨hinv.t.symm, by omega⟩
    · exact ⟨hagain, by omega⟩
  obtain ⟨zs, z1, z2, z3, z4, z5, _⟩ := openT_of hrc (fun zs hz => by rw [(htab zs hz).1]; exact hinv.r)
  obtain ⟨zt, zl⟩ := htab zs z1
  have q5 := storeOpen (crashS x.1.k keep dir) (ok_right hrc.r)
  rw [z2] at q5
  have hy : MInv (openT (crashS x.1.k keep dir)).1 zs := ⟨z4, z5 hnm, z3, by rw [z3, zt]; exact hinv.r⟩
  rw [zt] at z3
  generalize crashS x.1.k keep dir = c at *
  generalize (openT c).1 = y at *
  obtain ⟨oy1, oy2⟩ := hy.ok
  have q6 := storePut y oy1 oy2 lz (by simp [lz]) (-1)
  obtain ⟨p1, p2, p3⟩ := put_lz hy zl
  rw [p1] at q6
  obtain ⟨r1, r2, _⟩ := tab_iff.1 p2
  have q7 := ref12Get (putT y lz (-1)).1.t 5 (by omega) (fun l hl => by have := key_len (right_rng (r2 l hl)).2.2.2; omega)
  rw [p3] at q7
  generalize putT y lz (-1) = z at *
  have q8 := ref10SameLeases s.t s.t (by omega) (by omega)
  have hdt : decide (s.t = s.t) = true := by simp
  rw [hdt] at q8
  have eZ : lz.d = .agg [.int .i64 5, .int .i64 1, .int .i64 9, .str [105, 48, 57]] := rfl
  dsimp only at q7
  rw [eZ] at q6 q7
  simp (config := sc) (disch := first | exact dd | fail) [std, c1]
  refine o_call rfl rfl q1 rfl rfl ?_
  simp (config := sc) (disch := first | exact dd | fail) [std, StR.d]
  refine o_call rfl rfl q2 rfl rfl ?_
  simp (config := sc) (disch := first | exact dd | fail) [std, StR.d]
  refine o_call rfl rfl q4 rfl rfl ?_
  simp (config := sc) (disch := first | exact dd | fail) [std, Dk.d]
  refine o_call rfl rfl q5 rfl rfl ?_
  simp (config := sc) (disch := first | exact dd | fail) [std, StR.d, c2, z3]
  refine o_call rfl rfl q8 rfl rfl ?_
  simp (config := sc) (disch := first | exact dd | fail) [std, c2, z3]
  refine o_call rfl rfl q8 rfl rfl ?_
  simp (config := sc) (disch := first | exact dd | fail) [std, StR.d, ← z3]
  refine o_call rfl rfl q6 rfl rfl ?_
  simp (config := sc) (disch := first | exact dd | fail) [std, StR.d]
  refine o_call rfl rfl q7 rfl rfl ?_
  simp (config := sc) (disch := first | exact dd | fail) [std]
  refine o_call rfl rfl knows20 rfl rfl ?_
  simp (config := sc) (disch := first | exact dd | fail) [std]

end Go.Proofs.Ytkbidfohcanijaa
