/- Structs and slices made of parts; all quiet operations in one theorem. -/
import Derived.Test.YtoamihggbaaohaaEngH
import Derived.Great.FillDense
import Derived.Laws.Tables
namespace BoEng
open Go Go.RowKit

section
variable {P : Program}

theorem hasT_info {t : TypeId} (h : hasT P t = true) : ∃ i, P.info? t = some i := by
  unfold hasT at h
  cases hi : P.info? t with
  | none => simp [typeInfo, hi] at h
  | some i => exact ⟨i, rfl⟩

theorem mapM_places : ∀ (fs : List Field), (∀ f ∈ fs, hasT P f.type = true) → fs.mapM (fun f => (P.info? f.type).map fun i => (f.offset, i.size)) = some (fs.map fun f => (f.offset, P.cellsOf f.type))
  | [], _ => rfl
  | f :: fs, h => by
    obtain ⟨i, hi⟩ := hasT_info (h f List.mem_cons_self)
    rw [List.mapM_cons, mapM_places fs fun g hg => h g (List.mem_cons_of_mem _ hg)]
    simp [hi, Program.cellsOf]

/-- One part laid in. -/
theorem fill_step (off : Nat) (v : Value) (cs : List Value) (h : off + v.cells.size ≤ cs.length) :
    (v.cells.zipIdx.foldl (fun cs (x : Value × Nat) => cs.setIfInBounds (off + x.2) x.1) cs.toArray) = (cs.take off ++ v.cells.toList ++ cs.drop (off + v.cells.size)).toArray := by
  have hz : v.cells.zipIdx = (v.cells.toList.zipIdx 0).toArray := by
    apply Array.ext'
    simp
  have hf := Great.foldl_set off v.cells.toList 0 cs.toArray
  rw [hz, List.foldl_toArray]
  obtain ⟨h1, h2⟩ := hf
  apply Array.ext_getElem?
  intro k
  rw [h2 k]
  have hlen : v.cells.toList.length = v.cells.size := by simp
  simp only [List.getElem?_toArray, List.size_toArray, Nat.add_zero, hlen]
  by_cases h3 : off ≤ k ∧ k < off + v.cells.size ∧ k < cs.length
  · rw [if_pos h3, List.append_assoc, List.getElem?_append_right (by simp; omega), List.length_take, Nat.min_eq_left (by omega), List.getElem?_append_left (by rw [hlen]; omega)]
  · rw [if_neg h3]
    by_cases h4 : k < off
    · rw [List.append_assoc, List.getElem?_append_left (by simp; omega), List.getElem?_take, if_pos h4]
    · rw [List.getElem?_append_right (by simp; omega)]
      by_cases h5 : k < cs.length
      · rw [List.getElem?_drop]
        congr 1
        simp
        omega
      · rw [List.getElem?_eq_none (by omega), List.getElem?_eq_none (by simp; omega)]
end

section
variable {P : Program} {N : Nat} {tch : Env} {w0 : World} {fr0 : Nat → Option Nat} {S : PS} {a : Act} {w : World} {fr : Nat → Option Nat} {β : Nat → Blk}

/-- Cells that stand for cells. -/
def CRep (w : World) (fr : Nat → Option Nat) (us : List Value) (cs : List DV) : Prop :=
  us.length = cs.length ∧ (∀ u ∈ us, one u) ∧ ∀ (k : Nat) (u : Value) (p : DV), us[k]? = some u → cs[k]? = some p → DRep w fr u p

theorem CRep.take {us : List Value} {cs : List DV} (h : CRep w fr us cs) (n : Nat) : CRep w fr (us.take n) (cs.take n) := by
  refine ⟨by simp [h.1], fun u hu => h.2.1 u (List.mem_of_mem_take hu), fun k u p hu hp => ?_⟩
  rw [List.getElem?_take] at hu hp
  split at hu
  · rename_i hk
    rw [if_pos hk] at hp
    exact h.2.2 k u p hu hp
  · cases hu
theorem CRep.drop {us : List Value} {cs : List DV} (h : CRep w fr us cs) (n : Nat) : CRep w fr (us.drop n) (cs.drop n) := by
  refine ⟨by simp [h.1], fun u hu => h.2.1 u (List.mem_of_mem_drop hu), fun k u p hu hp => ?_⟩
  rw [List.getElem?_drop] at hu hp
  exact h.2.2 _ u p hu hp
theorem CRep.append {us us' : List Value} {cs cs' : List DV} (h : CRep w fr us cs) (h' : CRep w fr us' cs') : CRep w fr (us ++ us') (cs ++ cs') := by
  refine ⟨by simp [h.1, h'.1], fun u hu => ?_, fun k u p hu hp => ?_⟩
  · rcases List.mem_append.1 hu with hu | hu
    · exact h.2.1 u hu
    · exact h'.2.1 u hu
  · by_cases hk : k < us.length
    · rw [List.getElem?_append_left hk] at hu
      rw [List.getElem?_append_left (by rw [← h.1]; exact hk)] at hp
      exact h.2.2 k u p hu hp
    · rw [List.getElem?_append_right (by omega)] at hu
      rw [List.getElem?_append_right (by rw [← h.1]; omega), ← h.1] at hp
      exact h'.2.2 _ u p hu hp
theorem CRep.nil : CRep w fr [] [] := ⟨rfl, by simp, by simp⟩

/-- The cells of a value that stands for a datum. -/
theorem cells_rep {v : Value} {x : DV} (h : DRep w fr v x) (hv : ∀ ps, v ≠ .tuple ps) : CRep w fr v.cells.toList (cells x) := by
  cases h with
  | int k n => exact ⟨rfl, by simp [Value.cells, one, Value.oneCell'], fun k u p hu hp => by cases k <;> simp [Value.cells, cells] at hu hp; subst hu; subst hp; exact .int _ _⟩
  | bool b => exact ⟨rfl, by simp [Value.cells, one, Value.oneCell'], fun k u p hu hp => by cases k <;> simp [Value.cells, cells] at hu hp; subst hu; subst hp; exact .bool _⟩
  | str s => exact ⟨rfl, by simp [Value.cells, one, Value.oneCell'], fun k u p hu hp => by cases k <;> simp [Value.cells, cells] at hu hp; subst hu; subst hp; exact .str _⟩
  | opq _ hb h1 =>
    have hc : v.cells = #[v] := by cases v <;> first | rfl | simp [one, Value.oneCell'] at h1
    rw [hc]
    exact ⟨rfl, by simpa using h1, fun k u p hu hp => by cases k <;> simp [cells] at hu hp; subst hu; subst hp; exact .opq _ hb h1⟩
  | agg vs cs hl h1 hh => exact ⟨by simpa [Value.cells, cells] using hl, by simpa [Value.cells] using h1, fun k u p hu hp => hh k u p (by simpa [Value.cells] using hu) (by simpa [cells] using hp)⟩
  | slice A cap sz us xs hcap hsz ha h1 hh =>
    exact ⟨rfl, by simp [Value.cells, one, Value.oneCell'], fun k u p hu hp => by cases k <;> simp [Value.cells, cells] at hu hp; subst hu; subst hp; exact .slice A cap sz us xs hcap hsz ha h1 hh⟩

/-- Cells that stand for cells, of whatever kind. -/
def PCRep (w : World) (fr : Nat → Option Nat) (β : Nat → Blk) (gen : Nat → Nat) (us : List Value) (cs : List PV) : Prop :=
  us.length = cs.length ∧ (∀ u ∈ us, one u) ∧ ∀ (k : Nat) (u : Value) (p : PV), us[k]? = some u → cs[k]? = some p → PRep w fr β gen u p
theorem PCRep.take {gen : Nat → Nat} {us : List Value} {cs : List PV} (h : PCRep w fr β gen us cs) (n : Nat) : PCRep w fr β gen (us.take n) (cs.take n) := by
  refine ⟨by simp [h.1], fun u hu => h.2.1 u (List.mem_of_mem_take hu), fun k u p hu hp => ?_⟩
  rw [List.getElem?_take] at hu hp
  split at hu
  · rename_i hk
    rw [if_pos hk] at hp
    exact h.2.2 k u p hu hp
  · cases hu
theorem PCRep.drop {gen : Nat → Nat} {us : List Value} {cs : List PV} (h : PCRep w fr β gen us cs) (n : Nat) : PCRep w fr β gen (us.drop n) (cs.drop n) := by
  refine ⟨by simp [h.1], fun u hu => h.2.1 u (List.mem_of_mem_drop hu), fun k u p hu hp => ?_⟩
  rw [List.getElem?_drop] at hu hp
  exact h.2.2 _ u p hu hp
theorem PCRep.append {gen : Nat → Nat} {us us' : List Value} {cs cs' : List PV} (h : PCRep w fr β gen us cs) (h' : PCRep w fr β gen us' cs') : PCRep w fr β gen (us ++ us') (cs ++ cs') := by
  refine ⟨by simp [h.1, h'.1], fun u hu => ?_, fun k u p hu hp => ?_⟩
  · rcases List.mem_append.1 hu with hu | hu
    · exact h.2.1 u hu
    · exact h'.2.1 u hu
  · by_cases hk : k < us.length
    · rw [List.getElem?_append_left hk] at hu
      rw [List.getElem?_append_left (by rw [← h.1]; exact hk)] at hp
      exact h.2.2 k u p hu hp
    · rw [List.getElem?_append_right (by omega)] at hu
      rw [List.getElem?_append_right (by rw [← h.1]; omega), ← h.1] at hp
      exact h'.2.2 _ u p hu hp

theorem pcells_rep {v : Value} {p : PV} {cs : List PV} {gen : Nat → Nat} (h : PRep w fr β gen v p) (hc : pcells p = some cs) :
    v.cells.size = cs.length ∧ ∀ (k : Nat) (u : Value) (q : PV), v.cells[k]? = some u → cs[k]? = some q → PRep w fr β gen u q ∧ one u := by
  cases h with
  | d v x h =>
    simp [pcells] at hc
    subst hc
    have hnt : ∀ ps, v ≠ .tuple ps := by
      intro ps e
      rw [e] at h
      generalize hx : x = x' at h
      cases h with
      | opq v hb h1 => simp [one, Value.oneCell'] at h1
    have hcv := cells_rep h hnt
    refine ⟨by have := hcv.1; simpa using this, fun k u q hu hq => ?_⟩
    rw [List.getElem?_map] at hq
    cases hk : (cells x)[k]? with
    | none => rw [hk] at hq; cases hq
    | some y =>
      rw [hk] at hq
      cases hq
      have hu' : v.cells.toList[k]? = some u := by simpa using hu
      exact ⟨.d _ _ (hcv.2.2 k u y hu' hk), hcv.2.1 u (List.mem_of_getElem? hu')⟩
  | ptr a n g o h0 hg hs h =>
    simp [pcells] at hc
    subst hc
    refine ⟨rfl, fun k u q hu hq => ?_⟩
    cases k <;> simp [Value.cells] at hu hq
    subst hu hq
    exact ⟨.ptr a n g o h0 hg hs h, rfl⟩
  | cptr ad us cs' hs hf hcc h1 h =>
    simp [pcells] at hc
    subst hc
    refine ⟨rfl, fun k u q hu hq => ?_⟩
    cases k <;> simp [Value.cells] at hu hq
    subst hu hq
    exact ⟨.cptr ad us cs' hs hf hcc h1 h, rfl⟩
  | bsl A n g len sz cap ag h0 hg hs h =>
    simp [pcells] at hc
    subst hc
    refine ⟨rfl, fun k u q hu hq => ?_⟩
    cases k <;> simp [Value.cells] at hu hq
    subst hu hq
    exact ⟨.bsl A n g len sz cap ag h0 hg hs h, rfl⟩
  | fn f vs caps hl h =>
    cases caps with
    | nil =>
      obtain rfl : vs = [] := List.eq_nil_of_length_eq_zero hl
      simp [pcells] at hc
      subst hc
      refine ⟨rfl, fun k u q hu hq => ?_⟩
      cases k <;> simp [Value.cells] at hu hq
      subst hu hq
      exact ⟨.d _ _ (.opq _ (by simp) rfl), rfl⟩
    | cons c0 cr =>
      simp [pcells] at hc
      subst hc
      refine ⟨rfl, fun k u q hu hq => ?_⟩
      cases k <;> simp [Value.cells] at hu hq
      subst hu hq
      exact ⟨.fn f vs (c0 :: cr) hl h, rfl⟩
  | pa vs cs' hl h1 h =>
    simp [pcells] at hc
    subst hc
    refine ⟨by simpa [Value.cells] using hl, fun k u q hu hq => ?_⟩
    have hu' : vs[k]? = some u := by simpa [Value.cells] using hu
    exact ⟨h k u q hu' hq, h1 u (List.mem_of_getElem? hu')⟩
  | tup vs ps hl h => simp [pcells] at hc
  | any v hb => simp [pcells] at hc

theorem buildP_sound (h : Sim N tch w0 fr0 S a w fr β) {t : TypeId} {fs : Array Field} (hu : P.underlying t = some (.struct fs)) (hok : ∀ f ∈ fs.toList, hasT P f.type = true) :
    ∀ (ps : List (Nat × Operand)) (us : List Value) (cs cs' : List PV), PCRep w fr β S.gen us cs → buildP P S t ps cs = some cs' →
      ∃ us', Instr.fill (((fs.toList.map fun f => (f.offset, P.cellsOf f.type)).toArray)[·]?) us.toArray (ps.map fun (i, x) => (i, a.eval x)) = some us'.toArray ∧ PCRep w fr β S.gen us' cs' ∧ (∀ j, offOk P t j ps = true → us'[j]? = us[j]? ∧ cs'[j]? = cs[j]?) ∧
        (∀ s, buildOw P S t ps = some s → us'[0]? = some (a.tmps.getD s undef) ∧ cs'[0]? = some (S.t s))
  | [], us, cs, cs', hc, hb => by
    simp [buildP] at hb
    subst hb
    exact ⟨us, rfl, hc, fun _ _ => ⟨rfl, rfl⟩, fun s e => by simp [buildOw] at e⟩
  | (i, x) :: r, us, cs, cs', hc, hb => by
    unfold buildP at hb
    have hx := h.ev x
    split at hb
    · rename_i off ft v hf hp
      split at hb
      · rename_i hle
        obtain ⟨fs', fl, hu', hfl, rfl, rfl⟩ := under_of_fld hf
        rw [hu] at hu'
        cases hu'
        obtain ⟨hcs, hcr⟩ := pcells_rep hx hp
        have hcv : PCRep w fr β S.gen (a.eval x).cells.toList v := by
          refine ⟨by simpa using hcs, fun u hu => ?_, fun k u p hu hq => (hcr k u p (by simpa using hu) hq).1⟩
          obtain ⟨k, hk⟩ := List.mem_iff_getElem?.1 hu
          have hkl : k < v.length := by rw [← hcs]; have := (List.getElem?_eq_some_iff.1 hk).1; simpa using this
          exact (hcr k u _ (by simpa using hk) (List.getElem?_eq_getElem hkl)).2
        obtain ⟨us', hf', hr, hk0, hk1⟩ := buildP_sound h hu hok r (us.take fl.offset ++ (a.eval x).cells.toList ++ us.drop (fl.offset + v.length)) _ cs'
          (((hc.take _).append hcv).append (hc.drop _)) hb
        have hlu : us.length = cs.length := hc.1
        refine ⟨us', ?_, hr, fun j hl => ?_, fun s hs => ?_⟩
        rotate_left
        · simp only [offOk, List.all_cons, hf, Bool.and_eq_true, decide_eq_true_eq] at hl
          obtain ⟨h1, h2⟩ := hk0 j hl.2
          have hle1 := hle.2
          have hle0 := hle.1
          have hvl : (a.eval x).cells.toList.length = v.length := by simpa using hcs
          rcases hl.1 with hj | hj
          · constructor
            · rw [h1, List.append_assoc, List.getElem?_append_left (by simp; omega), List.getElem?_take, if_pos (by omega)]
            · rw [h2, List.append_assoc, List.getElem?_append_left (by simp; omega), List.getElem?_take, if_pos (by omega)]
          · constructor
            · rw [h1, List.getElem?_append_right (by rw [List.length_append, List.length_take, hvl]; omega), List.getElem?_drop]
              congr 1
              rw [List.length_append, List.length_take, hvl]
              omega
            · rw [h2, List.getElem?_append_right (by rw [List.length_append, List.length_take]; omega), List.getElem?_drop]
              congr 1
              rw [List.length_append, List.length_take]
              omega
        · unfold buildOw at hs
          split at hs
          · rename_i i' s' r' heq
            cases heq
            rw [hf] at hs
            simp only at hs
            split at hs
            · rename_i hq
              obtain ⟨q1, q2, q3, q4⟩ := hq
              cases hs
              obtain ⟨h1, h2⟩ := hk0 0 q3
              obtain ⟨xs, hxs⟩ := isSl_at q4
              simp only [PS.ev] at hp
              rw [hxs] at hp
              simp only [pcells, cells, Option.some.injEq] at hp
              subst hp
              have hv := h.vals s
              rw [hxs] at hv
              obtain ⟨A, cap, sz, us0, ev, _⟩ := slice_inv (inv_d hv)
              have hev : (a.eval (.tmp s)).cells.toList = [a.tmps.getD s undef] := by
                show (a.tmps.getD s undef).cells.toList = _
                rw [ev]
                rfl
              rw [h1, h2, q1, hev, hxs]
              exact ⟨rfl, rfl⟩
            · cases hs
          · cases hs
        rw [← hf', List.map_cons, Instr.fill]
        have hpl : ((fs.toList.map fun f => (f.offset, P.cellsOf f.type)).toArray)[i]? = some (fl.offset, P.cellsOf fl.type) := by
          simp [hfl]
        simp only [hpl]
        rw [← szT_eq]
        have hus : us.length = cs.length := hc.1
        rw [if_neg (by simp only [List.size_toArray, hcs, ne_eq, hle.1, not_true_eq_false, Bool.or_eq_true, decide_eq_true_eq, gt_iff_lt, ]; simp; omega)]
        rw [fill_step _ _ _ (by rw [hcs]; omega), hcs]
      · cases hb
    · cases hb

theorem isNilV_eq {v : Value} (h : isNilV v = true) : v = .slice none 0 0 := by
  unfold isNilV at h
  split at h
  · rfl
  · cases h
theorem mkA_part {cs : List PV} {k : Nat} {p : PV} (h : cs[k]? = some p) : (mkA cs).part k = p := by
  unfold mkA
  split
  · rename_i c hc
    have hs := toD_spec _ _ hc
    simp only [PV.part, List.getD_eq_getElem?_getD, ← hs, h]
    rfl
  · simp only [PV.part, List.getD_eq_getElem?_getD, h]
    rfl

theorem build_run (h : Sim N tch w0 fr0 S a w fr β) {o : Oper} {t : Nat} {ps : Array (Nat × Operand)} {r : PV} {b : Bool} (ho : o.op = .build t ps) (he : effV P S o = some (r, b)) :
    ∃ us : List Value, (Instr.build t (ps.map fun (i, x) => (i, a.eval x))).run P w = .ok (.agg us.toArray) w ∧ PRep w fr β S.gen (.agg us.toArray) r ∧ b = false ∧ (∀ s, buildOw P S t ps.toList = some s → us[0]? = some (a.tmps.getD s undef) ∧ r.part 0 = S.t s) ∧ (∀ j, nilAt P t ps.toList j = true → us[j]? = some (.slice none 0 0) ∧ r.part j = .d (.slice [])) := by
  simp only [effV, ho] at he
  split at he
  · rename_i z hz
    split at he
    · rename_i hall
      simp only [Option.map_eq_some_iff] at he
      obtain ⟨cs, hcs, he⟩ := he
      cases he
      obtain ⟨i, hi, hiz⟩ := info_of_zero hz
      have hfl := hall.2
      unfold fldsOk at hfl
      split at hfl
      · rename_i fs hu
        have hok : ∀ f ∈ fs.toList, hasT P f.type = true := List.all_eq_true.1 hfl
        have h0 : PCRep w fr β S.gen z.toList (z.toList.map fun c => .d (ofConstD c)) := by
          have h1 : ∀ u ∈ z.toList, one u := List.all_eq_true.1 hall.1
          refine ⟨by simp, h1, fun k u p hu hp => ?_⟩
          rw [List.getElem?_map, hu] at hp
          cases hp
          exact .d _ _ (ofConstD_rep (h1 u (List.mem_of_getElem? hu)))
        obtain ⟨us', hf, hr, hkj, hk⟩ := buildP_sound (P := P) h hu hok ps.toList z.toList _ cs h0 hcs
        refine ⟨us', ?_, mkA_rep hr.1 hr.2.1 hr.2.2, rfl, fun s hs => ⟨(hk s hs).1, mkA_part (hk s hs).2⟩, fun j hj => ?_⟩
        rotate_left
        · simp only [nilAt, hz, Value.cells, Bool.and_eq_true] at hj
          have hjz := of_decide_eq_true hj.2.1
          obtain ⟨h1, h2⟩ := hkj j hj.1
          have hzj : z.toList[j]? = some (.slice none 0 0) := by
            have := isNilV_eq hj.2.2
            rw [Array.getD_eq_getD_getElem?, Array.getElem?_eq_getElem hjz] at this
            simp only [Option.getD_some] at this
            rw [Array.getElem?_toList, Array.getElem?_eq_getElem hjz, this]
          refine ⟨by rw [h1, hzj], mkA_part ?_⟩
          rw [h2, List.getElem?_map, hzj]
          rfl
        refine run_build w t _ us'.toArray ?_
        simp only [Program.built, hi, hu, hiz, mapM_places _ hok, Value.cells]
        simpa using hf
      · cases hfl
    · cases he
  · cases he

theorem val_build (h : Sim N tch w0 fr0 S a w fr β) {o : Oper} {t : Nat} {ps : Array (Nat × Operand)} {r : PV} {b : Bool} (ho : o.op = .build t ps) (he : effV P S o = some (r, b)) : Val P S o a w fr β r b := by
  obtain ⟨us', hrun, hr, rfl, _, _⟩ := build_run h ho he
  exact Val.of h (s := Instr.build t (ps.map fun (i, x) => (i, a.eval x))) (by simp [execOp, ho]) (v := .agg us'.toArray) hrun hr

theorem elemsD_sound (h : Sim N tch w0 fr0 S a w fr β) {sz : Nat} : ∀ (ps : List (Nat × Operand)) (k : Nat) (xs : List DV), elemsD S sz k ps = some xs →
    (ps.map fun (i, x) => (i, a.eval x)) = (((ps.map fun (_, x) => a.eval x).zipIdx k).map fun x => (x.2, x.1)) ∧ xs.length = ps.length ∧ (∀ x ∈ xs, (cells x).length = sz) ∧
    (∀ v ∈ (ps.map fun (_, x) => a.eval x), v.cells.size = sz) ∧ CRep w fr ((ps.map fun (_, x) => a.eval x).flatMap fun v => v.cells.toList) (flat xs)
  | [], k, xs, he => by
    simp [elemsD] at he
    subst he
    exact ⟨rfl, rfl, by simp, by simp, CRep.nil⟩
  | (i, x) :: r, k, xs, he => by
    unfold elemsD at he
    have hx := h.ev x
    split at he
    · rename_i v hp
      rw [hp] at hx
      split at he
      · rename_i hi
        obtain ⟨rfl, hsz⟩ := hi
        simp only [Option.map_eq_some_iff] at he
        obtain ⟨ys, hy, rfl⟩ := he
        obtain ⟨e1, e2, e3, e4, e5⟩ := elemsD_sound h r (i + 1) ys hy
        have hv := inv_d hx
        have hnt : ∀ ps, a.eval x ≠ .tuple ps := by
          intro ps e
          rw [e] at hv
          generalize v = v' at hv
          cases hv with
          | opq v hb h1 => simp [one, Value.oneCell'] at h1
        have hcv := cells_rep hv hnt
        have hs : (a.eval x).cells.size = sz := by rw [← hsz, ← hcv.1]; simp
        refine ⟨by simp only [List.map_cons, List.zipIdx_cons, e1], by simp [e2], fun y hy => ?_, fun u hu => ?_, ?_⟩
        · rcases List.mem_cons.1 hy with rfl | hy
          · exact hsz
          · exact e3 y hy
        · rw [List.map_cons] at hu
          rcases List.mem_cons.1 hu with rfl | hu
          · exact hs
          · exact e4 u hu
        · rw [List.map_cons, List.flatMap_cons, flat_cons]
          exact hcv.append e5
      · cases he
    · cases he

theorem Fresh.alloc (hfrb : ∀ b f, fr b = some f → b < w.heap.size) (o : Obj) : Fresh w fr (w.alloc o) fr := by
  refine ⟨rfl, rfl, rfl, by simp, fun b hb => Below.heap_alloc _ _ _ hb, fun _ _ => rfl, fun b f hf => ?_⟩
  have := hfrb b f hf
  simp
  omega

theorem val_buildSlice (h : Sim N tch w0 fr0 S a w fr β) {o : Oper} {t len : Nat} {ps : Array (Nat × Operand)} {r : PV} {b : Bool} (ho : o.op = .buildSlice t len ps) (he : effV P S o = some (r, b)) : Val P S o a w fr β r b := by
  simp only [effV, ho] at he
  split at he
  · rename_i e ht
    split at he
    · rename_i hc
      obtain ⟨hlen, hbig, hpos, hz⟩ := hc
      simp only [Option.map_eq_some_iff] at he
      obtain ⟨xs, hx, he⟩ := he
      cases he
      obtain ⟨e1, e2, e3, e4, e5⟩ := elemsD_sound h ps.toList 0 xs hx
      obtain ⟨z, hz⟩ := Option.isSome_iff_exists.1 hz
      have hxl : xs.length = len := by rw [e2]; simpa using hlen
      obtain ⟨us, hus⟩ : ∃ us, us = (ps.toList.map fun (_, x) => a.eval x).flatMap fun v => v.cells.toList := ⟨_, rfl⟩
      rw [← hus] at e5
      have hul : us.length = len * szT P e := by rw [e5.1, flat_length e3, hxl]
      have hrun : (Instr.buildSlice t len (ps.map fun (i, x) => (i, a.eval x))).run P w = .ok (.slice (some ⟨w.heap.size, 0, none⟩) len len) (w.alloc (.cells us.toArray e)) := by
        have hfill : ∀ cs : Array Value, cs.size = len * szT P e → Instr.fill (fun i => some (i * szT P e, szT P e)) cs (ps.map fun (i, x) => (i, a.eval x)).toList = some us.toArray := by
          intro cs hcs
          have := Great.fill_whole hpos (ps.toList.map fun (_, x) => a.eval x) cs e4 (by rw [hcs]; simp [hlen])
          rw [← e1, ← hus] at this
          rw [← this]
          simp
        obtain ⟨i, hi, hiz⟩ := info_of_zero hz
        have hb : ¬ (len * szT P e > 2 ^ 24) := by omega
        have hb' : ¬ (16777216 < len * szT P e) := by omega
        have hfill' : ∀ cs : Array Value, cs.size = len * szT P e → Instr.fill (fun i => some (i * szT P e, szT P e)) cs (List.map (fun x => (x.fst, a.eval x.snd)) ps.toList) = some us.toArray := by
          intro cs hcs
          simpa using hfill cs hcs
        by_cases h0 : len * szT P e = 0
        · simp [Instr.buildSlice, underlying, under_of_el ht, run_size hpos, h0, newRow]
          rw [hfill' _ (by simp [h0])]
          simp
        · simp [Instr.buildSlice, underlying, under_of_el ht, run_size hpos, hb', h0, zeroValue, typeInfo, hi, hiz, newRow]
          rw [hfill' _ (by simp)]
          simp
      refine ⟨.slice (some ⟨w.heap.size, 0, none⟩) len len, w.alloc (.cells us.toArray e), fr, ?_, Fresh.alloc h.frb _, .d _ _ ?_, fun _ => ⟨_, _, _, rfl, rfl⟩⟩
      · simp [execOp, ho, hrun]
      · rw [← hxl]
        refine .slice _ _ (szT P e) (fun k => us.getD k undef) xs (Nat.le_refl _) e3 (fun h0 => ⟨_, rfl, rfl, fun f hf => ?_, fun k hk => ?_⟩) (fun k hk => ?_) (fun k p hp => ?_)
        · have := h.frb _ _ hf
          simp at this
        · have hk' : k < us.length := by rw [hul, ← hxl]; exact hk
          have hn : (w.alloc (.cells us.toArray e)).heap[w.heap.size]? = some (.cells us.toArray e) := by
            show (w.heap.push _)[w.heap.size]? = _
            rw [Array.getElem?_push_size]
          simp only [World.cell?, hn, Nat.zero_add]
          simp [hk', List.getD_eq_getElem?_getD]
        · have hk' : k < us.length := by rw [hul, ← hxl]; exact hk
          refine e5.2.1 _ ?_
          simp [hk', List.getD_eq_getElem?_getD]
        · have hk' : k < us.length := by
            rw [e5.1]
            exact (List.getElem?_eq_some_iff.1 hp).1
          have hd : us.getD k undef = us[k] := by simp [hk', List.getD_eq_getElem?_getD]
          show DRep _ _ (us.getD k undef) p
          rw [hd]
          exact (e5.2.2 k _ p (List.getElem?_eq_getElem hk') hp).mono (Fresh.alloc h.frb _).dext
    · cases he
  · cases he

/-- A slice of one element is made: its cells, in memory of its own. -/
theorem buildSlice1_run {t e : TypeId} {v z : Value} {w : World} (ht : elT P t = some e) (hpos : 0 < szT P e) (hbig : szT P e ≤ 16777216) (hz : zeroT P e = some z) (hv : v.cells.size = szT P e) :
    (Instr.buildSlice t 1 #[(0, v)]).run P w = .ok (.slice (some ⟨w.heap.size, 0, none⟩) 1 1) (w.alloc (.cells v.cells.toList.toArray e)) := by
  have hfill : ∀ cs : Array Value, cs.size = szT P e → Instr.fill (fun i => some (i * szT P e, szT P e)) cs [(0, v)] = some v.cells.toList.toArray := by
    intro cs hcs
    have := Great.fill_whole hpos [v] cs (by simpa using hv) (by simp [hcs])
    simpa using this
  obtain ⟨i, hi, hiz⟩ := info_of_zero hz
  have hb' : ¬ (16777216 < szT P e) := by omega
  have h0 : ¬ szT P e = 0 := by omega
  simp [Instr.buildSlice, underlying, under_of_el ht, run_size hpos, hb', h0, zeroValue, typeInfo, hi, hiz, newRow]
  rw [hfill _ (by simp)]
  simp

/-- All quiet operations. -/
theorem effV_sound (h : Sim N tch w0 fr0 S a w fr β) {o : Oper} {r : PV} {b : Bool} (he : effV P S o = some (r, b)) : Val P S o a w fr β r b := by
  have he' := he
  unfold effV at he'
  split at he'
  · rename_i ho; exact val_pick h ho he
  · rename_i ho; exact val_nilCheck h ho he
  · rename_i ho; exact val_binOp h ho he
  · rename_i ho; exact val_unOp h ho he
  · rename_i ho; exact val_fieldAddr h ho he
  · rename_i ho; exact val_field h ho he
  · rename_i ho; exact val_indexAddr h ho he
  · rename_i ho; exact val_index h ho he
  · rename_i ho; exact val_slice h ho he
  · rename_i ho; exact val_build h ho he
  · rename_i ho; exact val_buildSlice h ho he
  · rename_i ho; exact val_makeFunc h ho he
  · rename_i ho; exact val_convert h ho he
  · rename_i ho; exact val_len h ho he
  · rename_i ho
    simp only [Option.map_eq_some_iff] at he'
    obtain ⟨r', hr, e⟩ := he'
    cases e
    exact val_minmax h (mx := false) ho hr
  · rename_i ho
    simp only [Option.map_eq_some_iff] at he'
    obtain ⟨r', hr, e⟩ := he'
    cases e
    exact val_minmax h (mx := true) ho hr
  · cases he'
end

end BoEng
