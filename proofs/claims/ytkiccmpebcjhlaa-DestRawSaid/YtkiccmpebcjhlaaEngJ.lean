/- Boxes: made, written; rows: appended to. -/
import Derived.Test.YtkiccmpebcjhlaaEngI
namespace BoEng
open Go Go.RowKit

theorem ownOk_nil {tch : Nat → Prop} {w0 w : World} {fr : Nat → Option Nat} : OwnOk tch w0 w fr (.slice none 0 0) (.d (.slice [])) := ⟨[], rfl, .inl ⟨none, 0, rfl⟩⟩

theorem isNilV_eq {v : Value} (h : isNilV v = true) : v = .slice none 0 0 := by
  unfold isNilV at h
  split at h
  · rfl
  · cases h

section
variable {N : Nat} {tch : Nat → Prop} {w0 : World} {fr0 : Nat → Option Nat} {S : PS} {a : Act} {w : World} {fr : Nat → Option Nat} {β : Nat → Nat}

theorem cell_alloc_new (w : World) (cs : Array Value) (E : TypeId) (k : Nat) : (w.alloc (.cells cs E)).cell? ⟨w.heap.size, k, none⟩ = cs[k]? := by
  have hn : (w.alloc (.cells cs E)).heap[w.heap.size]? = some (.cells cs E) := by
    show (w.heap.push _)[w.heap.size]? = _
    rw [Array.getElem?_push_size]
  simp only [World.cell?, hn]
  rfl

theorem heap_alloc_new' (w : World) (o : Obj) : (w.alloc o).heap[w.heap.size]? = some o := by
  show (w.heap.push _)[w.heap.size]? = _
  rw [Array.getElem?_push_size]

/-- A new box; its address lies in a slot. -/
theorem Sim.newBox (h : Sim N tch w0 fr0 S a w fr β) {d n : Nat} (hd : d < N) (cs : Array Value) (E : TypeId) (content : List PV) (ob : Nat → Bool) (r : PV) (v : Value)
    (hlen : cs.size = content.length) (hc : ∀ (k : Nat) (u : Value) (p : PV), cs[k]? = some u → content[k]? = some p → PRep w fr β S.gen u p ∧ one u)
    (hob : ∀ k, ob k = true → cs[k]? = some (.slice none 0 0) ∧ content[k]? = some (.d (.slice [])))
    (hr : (r = .ptr n (S.gen n + 1) 0 ∧ v = .pointer (some ⟨w.heap.size, 0, none⟩)) ∨ ∃ l, r = .bsl n (S.gen n + 1) l ∧ v = .slice (some ⟨w.heap.size, 0, none⟩) l l) :
    Sim N tch w0 fr0 ((⟨some d, r, fun _ => false, fun _ => false, some (n, S.gen n + 1, content, ob)⟩ : Eff).apply S) (a.put (some d) v) (w.alloc (.cells cs E)) (upd fr w.heap.size (some 0)) (upd β n w.heap.size) := by
  have hd' : d < a.tmps.size := by rw [h.ntmps]; exact hd
  have hfx : Fresh w fr (w.alloc (.cells cs E)) (upd fr w.heap.size (some 0)) := by
    refine ⟨rfl, rfl, rfl, by simp, fun b hb => Below.heap_alloc _ _ _ hb, fun b hb => upd_ne _ _ (by omega), fun b f hf => ?_⟩
    by_cases e : b = w.heap.size
    · simp [e]
    · rw [upd_ne _ _ e] at hf
      have := h.frb b f hf
      simp
      omega
  have hg : GExt β S.gen (upd β n w.heap.size) (upd S.gen n (S.gen n + 1)) := by
    refine ⟨fun m => ?_, fun m e _ => ?_⟩
    · unfold upd; split
      · subst_vars; omega
      · omega
    · unfold upd at e ⊢
      split at e
      · subst_vars; omega
      · rename_i hne; rw [if_neg hne]
  have hblt : ∀ m, 0 < S.gen m → β m < w.heap.size := fun m hm => by
    obtain ⟨⟨c, E', hc', _⟩, _, _⟩ := h.boxes m hm
    exact (Array.getElem?_eq_some_iff.1 hc').1
  have hsz := h.size
  let S' : PS := (⟨some d, r, fun _ => false, fun _ => false, some (n, S.gen n + 1, content, ob)⟩ : Eff).apply S
  have hgen : S'.gen = upd S.gen n (S.gen n + 1) := rfl
  have hbox : S'.box = upd S.box n content := rfl
  have ho_t : ∀ i j, S'.own (.t i j) = (if d = i then false else S.own (.t i j)) := by
    intro i j
    show (if (some d : Option Nat) = some i then false else S.own (.t i j) && !false) = _
    simp
  have ho_b : ∀ m k, S'.own (.b m k) = if m = n then ob k else S.own (.b m k) := by
    intro m k
    show (if m = n then ob k else S.own (.b m k) && !false) = _
    simp
  have hcell : ∀ m k, m ≠ n → 0 < S.gen m → vat (a.put (some d) v) (w.alloc (.cells cs E)) (upd β n w.heap.size) (.b m k) = vat a w β (.b m k) := by
    intro m k hm h0
    simp only [vat]
    rw [upd_ne _ _ hm, hfx.cell (hblt m h0)]
  have htmp : ∀ i j, i ≠ d → vat (a.put (some d) v) (w.alloc (.cells cs E)) (upd β n w.heap.size) (.t i j) = vat a w β (.t i j) := by
    intro i j hi
    simp only [vat, put_getD hd', if_neg hi]
  have hnew : ∀ k, vat (a.put (some d) v) (w.alloc (.cells cs E)) (upd β n w.heap.size) (.b n k) = (cs[k]?).getD undef := by
    intro k
    simp only [vat]
    rw [upd_same, cell_alloc_new]
  have hold : ∀ l, S'.own l = true → (∃ k, l = .b n k ∧ ob k = true) ∨ (S.own l = true ∧ vat (a.put (some d) v) (w.alloc (.cells cs E)) (upd β n w.heap.size) l = vat a w β l ∧ S'.at l = S.at l) := by
    intro l hl
    cases l with
    | t i j =>
      rw [ho_t] at hl
      split at hl
      · cases hl
      · rename_i hne
        refine .inr ⟨hl, htmp i j (fun e => hne e.symm), ?_⟩
        show (upd S.t d r i).part j = (S.t i).part j
        rw [upd_ne _ _ (fun e => hne e.symm)]
    | b m k =>
      rw [ho_b] at hl
      split at hl
      · rename_i e
        subst e
        exact .inl ⟨k, rfl, hl⟩
      · rename_i hne
        refine .inr ⟨hl, hcell m k hne (h.live m k hl).1, ?_⟩
        show (upd S.box n content m).getD k .any = (S.box m).getD k .any
        rw [upd_ne _ _ hne]
  have hnrow : ∀ k, ob k = true → rowOf ((cs[k]?).getD undef) = none := by
    intro k hk
    rw [(hob k hk).1]
    rfl
  refine ⟨h.defers, by simp [Act.put, h.ntmps], h.os, h.tape, h.output, Nat.le_trans hsz hfx.size, hfx.frb, fun b hb ht => ?_, fun b ht => ?_, fun i => ?_, fun m hm => ?_, fun m m' hm hm' e => ?_, fun l hl => ?_, fun m k hl => ?_, fun l l' hl hl' hne b hb => ?_⟩
  · have hb' := Nat.lt_of_lt_of_le hb hsz
    exact ⟨(hfx.old b hb').trans (h.frame b hb ht).1, (hfx.reg b hb').trans (h.frame b hb ht).2⟩
  · obtain ⟨hb, f0, f, e0, e, hle, hk⟩ := h.keep b ht
    have hb' := Nat.lt_of_lt_of_le hb hsz
    exact ⟨hb, f0, f, e0, by rw [hfx.reg b hb']; exact e, hle, fun k u hk0 hcc => by rw [hfx.cell hb']; exact hk k u hk0 hcc⟩
  · rw [put_getD hd']
    show PRep _ _ _ (upd S.gen n (S.gen n + 1)) _ (upd S.t d r i)
    by_cases e : i = d
    · subst e
      rw [if_pos rfl, upd_same]
      rcases hr with ⟨rfl, rfl⟩ | ⟨l, rfl, rfl⟩
      · exact .ptr _ _ _ _ (by omega) (by rw [upd_same]; omega) fun _ => by rw [upd_same]
      · exact .bsl _ _ _ _ (by omega) (by rw [upd_same]; omega) fun _ => by rw [upd_same]
    · rw [if_neg e, upd_ne _ _ e]
      exact (h.vals i).mono hfx.dext hg
  · show BoxOk _ _ _ _ _ _ (upd β n w.heap.size m) (upd S.box n content m)
    by_cases e : m = n
    · subst e
      rw [upd_same, upd_same]
      refine ⟨⟨cs, E, heap_alloc_new' _ _, hlen, fun k u p hu hp => ⟨((hc k u p hu hp).1).mono hfx.dext hg, (hc k u p hu hp).2⟩⟩, upd_same _ _ _, .inl hsz⟩
    · rw [upd_ne _ _ e, upd_ne _ _ e]
      have hm0 : 0 < S.gen m := by
        have h2 : upd S.gen n (S.gen n + 1) m = S.gen m := upd_ne _ _ e
        rw [← h2]
        exact hm
      obtain ⟨⟨c, E', hc', hs', hp'⟩, hr', hmine⟩ := h.boxes m hm0
      have hb := hblt m hm0
      exact ⟨⟨c, E', by rw [hfx.old _ hb]; exact hc', hs', fun k u p hu hp => ⟨(hp' k u p hu hp).1.mono hfx.dext hg, (hp' k u p hu hp).2⟩⟩, by rw [hfx.reg _ hb]; exact hr', hmine⟩
  · have hgm : ∀ m, m ≠ n → S'.gen m = S.gen m := fun m hne => upd_ne _ _ hne
    by_cases e1 : m = n
    · by_cases e2 : m' = n
      · rw [e1, e2]
      · subst e1
        rw [upd_same, upd_ne _ _ e2] at e
        have := hblt m' (by rw [← hgm m' e2]; exact hm')
        omega
    · by_cases e2 : m' = n
      · subst e2
        rw [upd_same, upd_ne _ _ e1] at e
        have := hblt m (by rw [← hgm m e1]; exact hm)
        omega
      · rw [upd_ne _ _ e1, upd_ne _ _ e2] at e
        exact h.binj m m' (by rw [← hgm m e1]; exact hm) (by rw [← hgm m' e2]; exact hm') e
  · rcases hold l hl with ⟨k, rfl, hk⟩ | ⟨ho, e1, e2⟩
    · rw [hnew, (hob k hk).1]
      have : S'.at (.b n k) = .d (.slice []) := by
        show (upd S.box n content n).getD k .any = _
        rw [upd_same]
        simp [List.getD_eq_getElem?_getD, (hob k hk).2]
      rw [this]
      exact ownOk_nil
    · rw [e1, e2]
      refine (h.own l ho).same fun b hb => ?_
      have := (h.own l ho).row hb
      exact ⟨hfx.old b this, hfx.reg b this⟩
  · rw [ho_b] at hl
    split at hl
    · rename_i e
      subst e
      refine ⟨by rw [hgen, upd_same]; omega, ?_⟩
      rw [hbox, upd_same]
      exact (List.getElem?_eq_some_iff.1 (hob k hl).2).1
    · rename_i hne
      have := h.live m k hl
      rw [hgen, hbox, upd_ne _ _ hne, upd_ne _ _ hne]
      exact this
  · rcases hold l hl with ⟨k, rfl, hk⟩ | ⟨ho, e1, e2⟩
    · rw [hnew, hnrow k hk] at hb
      cases hb
    · rcases hold l' hl' with ⟨k', rfl, hk'⟩ | ⟨ho', e1', e2'⟩
      · rw [hnew, hnrow k' hk']
        simp
      · rw [e1'] 
        rw [e1] at hb
        exact h.oinj l l' ho ho' hne b hb

theorem setCells_heap_ne (b : Nat) : ∀ (vs : List Value) (o : Nat) (w : World) (k : Nat), k ≠ b → (w.setCells b o vs).heap[k]? = w.heap[k]?
  | [], _, _, _, _ => rfl
  | v :: r, o, w, k, hk => by
    unfold World.setCells
    rw [setCells_heap_ne b r (o + 1) _ k hk, Below.heap_setCell _ _ _ _ hk]
theorem setCells_rest (b : Nat) : ∀ (vs : List Value) (o : Nat) (w : World), (w.setCells b o vs).os = w.os ∧ (w.setCells b o vs).tape = w.tape ∧ (w.setCells b o vs).output = w.output ∧ (w.setCells b o vs).heap.size = w.heap.size
  | [], _, _ => ⟨rfl, rfl, rfl, rfl⟩
  | v :: r, o, w => by
    unfold World.setCells
    obtain ⟨h1, h2, h3, h4⟩ := setCells_rest b r (o + 1) (w.setCell ⟨b, o, none⟩ v)
    exact ⟨h1, h2, h3, by rw [h4]; simp [World.setCell]⟩

theorem setCell_heap_at (w : World) (b o : Nat) (v : Value) (cs : Array Value) (E : TypeId) (f : Nat × Nat) (h : w.heap[b]? = some (.cells cs E f)) :
    (w.setCell ⟨b, o, none⟩ v).heap[b]? = some (.cells (cs.setIfInBounds o v) E f) := by
  simp only [World.setCell, Array.getElem?_modify, if_true, h, Option.map_some]
  rfl
theorem setCells_heap_at (b : Nat) : ∀ (vs : List Value) (o : Nat) (w : World) (cs : List Value) (E : TypeId) (f : Nat × Nat), w.heap[b]? = some (.cells cs.toArray E f) → o + vs.length ≤ cs.length →
    (w.setCells b o vs).heap[b]? = some (.cells (cs.take o ++ vs ++ cs.drop (o + vs.length)).toArray E f)
  | [], o, w, cs, E, f, h, _ => by simpa [World.setCells] using h
  | v :: r, o, w, cs, E, f, h, hl => by
    unfold World.setCells
    simp only [List.length_cons] at hl
    have h1 := setCell_heap_at w b o v cs.toArray E f h
    rw [List.setIfInBounds_toArray] at h1
    rw [setCells_heap_at b r (o + 1) _ (cs.set o v) E f h1 (by simp; omega)]
    congr 2
    congr 1
    have hk1 : o < cs.length := by omega
    have ht : (cs.take o).length = o := by simp; omega
    have h2 : (cs.set o v).take (o + 1) = cs.take o ++ [v] := by
      rw [List.set_eq_take_append_cons_drop, if_pos hk1, List.take_append, ht, List.take_of_length_le (by omega)]
      simp
    have h3 : (cs.set o v).drop (o + 1 + r.length) = cs.drop (o + (v :: r).length) := by
      rw [List.set_eq_take_append_cons_drop, if_pos hk1, List.drop_append, ht, List.drop_eq_nil_of_le (by omega), List.nil_append, show o + 1 + r.length - o = r.length + 1 by omega, List.drop_succ_cons, List.drop_drop]
      congr 1
      simp only [List.length_cons]
      omega
    rw [h2, h3]
    simp

/-- A box is written. -/
theorem Sim.setBox (h : Sim N tch w0 fr0 S a w fr β) {n off : Nat} (hn : 0 < S.gen n) (vs : List Value) (ps : List PV) (clr : Loc → Bool) (ob : Nat → Bool)
    (hclr : ∀ m k, clr (.b m k) = false) (hlen : vs.length = ps.length) (hle : off + ps.length ≤ (S.box n).length) (hv : ∀ (k : Nat) (u : Value) (p : PV), vs[k]? = some u → ps[k]? = some p → PRep w fr β S.gen u p ∧ one u)
    (hob : ∀ k, ob k = true → (k < off ∨ off + ps.length ≤ k) ∧ S.own (.b n k) = true ∨
      ∃ j l, k = off + j ∧ j < ps.length ∧ (vs[j]? = some (.slice none 0 0) ∧ ps[j]? = some (.d (.slice [])) ∨ (S.own l = true ∧ clr l = true ∧ ps.length = 1 ∧ vs[j]? = some (vat a w β l) ∧ ps[j]? = some (S.at l)))) :
    Sim N tch w0 fr0 ((⟨none, .undef, fun _ => false, clr, some (n, S.gen n, (S.box n).take off ++ ps ++ (S.box n).drop (off + ps.length), ob)⟩ : Eff).apply S) a (w.setCells (β n) off vs) fr β := by
  obtain ⟨⟨cs, E, hc, hcs, hcp⟩, hreg, hmine⟩ := h.boxes n hn
  have hcl : cs = cs.toList.toArray := (Array.toArray_toList (xs := cs)).symm
  have hcsl : cs.toList.length = (S.box n).length := by rw [← hcs]; simp
  obtain ⟨r1, r2, r3, r4⟩ := setCells_rest (β n) vs off w
  have hat : (w.setCells (β n) off vs).heap[β n]? = some (.cells (cs.toList.take off ++ vs ++ cs.toList.drop (off + vs.length)).toArray E (0, 0)) :=
    setCells_heap_at (β n) vs off w cs.toList E (0, 0) (by rw [Array.toArray_toList]; exact hc) (by rw [hcsl, hlen]; exact hle)
  have hne : ∀ b, b ≠ β n → (w.setCells (β n) off vs).heap[b]? = w.heap[b]? := fun b hb => setCells_heap_ne (β n) vs off w b hb
  have hcell : ∀ b o, b ≠ β n → (w.setCells (β n) off vs).cell? ⟨b, o, none⟩ = w.cell? ⟨b, o, none⟩ := fun b o hb => World.cell?_of_block (w := w) (hne b hb)
  have hx : DExt w fr (w.setCells (β n) off vs) fr := by
    refine ⟨fun b o u hcc hf => ?_, fun b f' _ hf => ⟨f', hf, Nat.le_refl _⟩, by rw [r4]; exact Nat.le_refl _⟩
    have hb : b ≠ β n := by
      intro e
      subst e
      exact absurd (hf 0 hreg) (by omega)
    rw [hcell b o hb]
    exact hcc
  have hnewcell : ∀ k, (w.setCells (β n) off vs).cell? ⟨β n, k, none⟩ = (cs.toList.take off ++ vs ++ cs.toList.drop (off + vs.length))[k]? := by
    intro k
    simp only [World.cell?, hat]
    simp
  have holdcell : ∀ k, w.cell? ⟨β n, k, none⟩ = cs.toList[k]? := by
    intro k
    simp only [World.cell?, hc]
    simp
  let E' : Eff := ⟨none, .undef, fun _ => false, clr, some (n, S.gen n, (S.box n).take off ++ ps ++ (S.box n).drop (off + ps.length), ob)⟩
  have hgen : ∀ m, (E'.apply S).gen m = S.gen m := by
    intro m
    show upd S.gen n (S.gen n) m = S.gen m
    unfold upd
    split
    · subst_vars; rfl
    · rfl
  have hgen' : (E'.apply S).gen = S.gen := funext hgen
  have hboxn : (E'.apply S).box n = (S.box n).take off ++ ps ++ (S.box n).drop (off + ps.length) := upd_same _ _ _
  have hboxm : ∀ m, m ≠ n → (E'.apply S).box m = S.box m := fun m hm => upd_ne _ _ hm
  have hot : ∀ i j, (E'.apply S).own (.t i j) = (S.own (.t i j) && !clr (.t i j)) := fun i j => rfl
  have hob' : ∀ m k, (E'.apply S).own (.b m k) = if m = n then ob k else S.own (.b m k) && !clr (.b m k) := fun m k => rfl
  -- where an own place came from
  have hold : ∀ l, (E'.apply S).own l = true → ((∃ k j, l = .b n k ∧ k = off + j ∧ vs[j]? = some (.slice none 0 0) ∧ ps[j]? = some (.d (.slice [])) ∧ vat a (w.setCells (β n) off vs) β l = .slice none 0 0 ∧ (E'.apply S).at l = .d (.slice [])) ∨
      ∃ l0, S.own l0 = true ∧ (l0 = l ∧ (clr l = false ∨ ∃ k, l = .b n k ∧ (k < off ∨ off + ps.length ≤ k)) ∨ (clr l0 = true ∧ ps.length = 1 ∧ l = .b n off)) ∧ vat a (w.setCells (β n) off vs) β l = vat a w β l0 ∧ (E'.apply S).at l = S.at l0) := by
    intro l hl
    cases l with
    | t i j =>
      rw [hot] at hl
      simp at hl
      exact .inr ⟨.t i j, hl.1, .inl ⟨rfl, .inl hl.2⟩, rfl, rfl⟩
    | b m k =>
      rw [hob'] at hl
      split at hl
      · rename_i e
        subst e
        rcases hob k hl with ⟨hk, ho⟩ | ⟨j, l0, rfl, hj, hh⟩
        · refine .inr ⟨.b m k, ho, .inl ⟨rfl, .inr ⟨k, rfl, hk⟩⟩, ?_, ?_⟩
          · simp only [vat]
            rw [hnewcell, holdcell, List.append_assoc]
            rcases hk with hk | hk
            · rw [List.getElem?_append_left (by simp; omega), List.getElem?_take, if_pos hk]
            · rw [List.getElem?_append_right (by simp; omega), List.getElem?_append_right (by simp; omega), List.getElem?_drop]
              congr 2
              simp
              omega
          · show ((E'.apply S).box m).getD k .any = (S.box m).getD k .any
            rw [hboxn, List.getD_eq_getElem?_getD, List.getD_eq_getElem?_getD, List.append_assoc]
            rcases hk with hk | hk
            · rw [List.getElem?_append_left (by simp; omega), List.getElem?_take, if_pos hk]
            · rw [List.getElem?_append_right (by simp; omega), List.getElem?_append_right (by simp; omega), List.getElem?_drop]
              congr 2
              simp
              omega
        · have hv1 : vat a (w.setCells (β m) off vs) β (.b m (off + j)) = (vs[j]?).getD undef := by
            simp only [vat]
            rw [hnewcell, List.append_assoc, List.getElem?_append_right (by simp; omega), List.getElem?_append_left (by simp; omega)]
            congr 2
            simp
            omega
          have hp1 : (E'.apply S).at (.b m (off + j)) = (ps[j]?).getD .any := by
            show ((E'.apply S).box m).getD (off + j) .any = _
            rw [hboxn, List.getD_eq_getElem?_getD, List.append_assoc, List.getElem?_append_right (by simp; omega), List.getElem?_append_left (by simp; omega)]
            congr 2
            simp
            omega
          rcases hh with ⟨hh1, hh2⟩ | ⟨ho, hclr, h1, hh1, hh2⟩
          · exact .inl ⟨off + j, j, rfl, rfl, hh1, hh2, by rw [hv1, hh1]; rfl, by rw [hp1, hh2]; rfl⟩
          · have hj0 : j = 0 := by omega
            subst hj0
            exact .inr ⟨l0, ho, .inr ⟨hclr, h1, rfl⟩, by rw [hv1, hh1]; rfl, by rw [hp1, hh2]; rfl⟩
      · rename_i hne
        simp at hl
        refine .inr ⟨.b m k, hl.1, .inl ⟨rfl, .inl hl.2⟩, ?_, ?_⟩
        · simp only [vat]
          rw [hcell]
          intro e
          exact hne (h.binj m n (h.live m k hl.1).1 hn e)
        · show ((E'.apply S).box m).getD k .any = (S.box m).getD k .any
          rw [hboxm m hne]
  refine ⟨h.defers, h.ntmps, r1.trans h.os, r2.trans h.tape, r3.trans h.output, by rw [r4]; exact h.size, fun b f hf => by rw [r4]; exact h.frb b f hf, fun b hb ht => ?_, fun b ht => ?_, fun i => ?_, fun m hm => ?_, fun m m' hm hm' e => ?_, fun l hl => ?_, fun m k hl => ?_, fun l l' hl hl' hnel b hb => ?_⟩
  · have hb' : b ≠ β n := by
      intro e
      subst e
      rcases hmine with hm | hm
      · omega
      · exact ht hm
    exact ⟨(hne b hb').trans (h.frame b hb ht).1, (h.frame b hb ht).2⟩
  · obtain ⟨hb, f0, f, e0, e, hle', hk⟩ := h.keep b ht
    refine ⟨hb, f0, f, e0, e, hle', fun k u hk0 hcc => ?_⟩
    have hb' : b ≠ β n := by
      intro e'
      subst e'
      rw [hreg] at e
      cases e
      omega
    rw [hcell b k hb']
    exact hk k u hk0 hcc
  · rw [hgen']
    exact (h.vals i).mono hx (GExt.refl _ _)
  · rw [hgen'] at hm ⊢
    by_cases e : m = n
    · subst e
      rw [hboxn]
      refine ⟨⟨_, E, hat, ?_, fun k u p hu hp => ?_⟩, hreg, hmine⟩
      · simp
        omega
      · rw [List.getElem?_toArray, List.append_assoc] at hu
        rw [List.append_assoc] at hp
        by_cases c1 : k < off
        · rw [List.getElem?_append_left (by simp; omega), List.getElem?_take, if_pos c1] at hu hp
          have := hcp k u p (by simpa using hu) hp
          exact ⟨this.1.mono hx (GExt.refl _ _), this.2⟩
        · rw [List.getElem?_append_right (by simp; omega)] at hu hp
          have el : (cs.toList.take off).length = off := by simp; omega
          have el' : ((S.box m).take off).length = off := by simp; omega
          rw [el] at hu
          rw [el'] at hp
          by_cases c2 : k - off < ps.length
          · rw [List.getElem?_append_left (by omega)] at hu hp
            have := hv _ u p hu hp
            exact ⟨this.1.mono hx (GExt.refl _ _), this.2⟩
          · rw [List.getElem?_append_right (by omega), List.getElem?_drop] at hu hp
            rw [hlen] at hu
            have := hcp _ u p (by simpa using hu) hp
            exact ⟨this.1.mono hx (GExt.refl _ _), this.2⟩
    · rw [hboxm m e]
      obtain ⟨⟨c, E2, hc2, hs2, hp2⟩, hr2, hm2⟩ := h.boxes m hm
      refine ⟨⟨c, E2, ?_, hs2, fun k u p hu hp => ⟨(hp2 k u p hu hp).1.mono hx (GExt.refl _ _), (hp2 k u p hu hp).2⟩⟩, hr2, hm2⟩
      rw [hne _ fun e' => e (h.binj m n hm hn e')]
      exact hc2
  · rw [hgen'] at hm hm'
    exact h.binj m m' hm hm' e
  · rcases hold l hl with ⟨k, j, rfl, rfl, h1, h2, e1, e2⟩ | ⟨l0, ho, _, e1, e2⟩
    · rw [e1, e2]
      exact ownOk_nil
    · rw [e1, e2]
      refine (h.own l0 ho).same fun b hb => ⟨hne b fun e => ?_, rfl⟩
      subst e
      obtain ⟨xs, hxs, hh⟩ := h.own l0 ho
      rcases hh with ⟨A, q, hq⟩ | ⟨b', c, cur, E2, sz, hq, h1, h2, h20, h3, h4, h5, h6, h7⟩
      · rw [hq] at hb
        cases A <;> simp [rowOf] at hb
      · rw [hq] at hb
        have e : b' = β n := by simpa [rowOf, h1] using hb
        rw [e, hreg] at h6
        have hz : xs.length * sz = 0 := by simpa using h6.symm
        rcases Nat.mul_eq_zero.1 hz with h' | h' <;> omega
  · rw [hgen']
    rw [hob'] at hl
    split at hl
    · rename_i e
      subst e
      refine ⟨hn, ?_⟩
      rw [hboxn]
      rcases hob k hl with ⟨_, ho⟩ | ⟨j, l0, rfl, hj, _⟩
      · have := (h.live m k ho).2
        simp
        omega
      · simp
        omega
    · rename_i hne2
      simp at hl
      rw [hboxm m hne2]
      exact h.live m k hl.1
  · rcases hold l hl with ⟨k, j, rfl, rfl, h1, h2, e1, e2⟩ | ⟨l0, ho, hw, e1, e2⟩
    · rw [e1] at hb
      simp [rowOf] at hb
    · rcases hold l' hl' with ⟨k', j', rfl, rfl, h1', h2', e1', e2'⟩ | ⟨l0', ho', hw', e1', e2'⟩
      · rw [e1']
        simp [rowOf]
      · rw [e1']
        rw [e1] at hb
        refine h.oinj l0 l0' ho ho' (fun e => ?_) b hb
        subst e
        rcases hw with ⟨rfl, hw⟩ | ⟨hc1, _, rfl⟩
        · rcases hw' with ⟨rfl, _⟩ | ⟨hc2, _, rfl⟩
          · exact hnel rfl
          · rcases hw with hw | ⟨k, rfl, _⟩
            · rw [hw] at hc2
              cases hc2
            · rw [hclr] at hc2
              cases hc2
        · rcases hw' with ⟨rfl, hw'⟩ | ⟨hc2, _, rfl⟩
          · rcases hw' with hw' | ⟨k, rfl, _⟩
            · rw [hw'] at hc1
              cases hc1
            · rw [hclr] at hc1
              cases hc1
          · exact hnel rfl
end

end BoEng
