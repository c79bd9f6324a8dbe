/- Boxes: made, written; rows: appended to. -/
import Derived.Test.YtoamihggbaaohaaEngI
namespace BoEng
open Go Go.RowKit

theorem ownOk_nil {tch : Nat → Prop} {w0 w : World} {fr : Nat → Option Nat} : OwnOk tch w0 w fr (.slice none 0 0) (.d (.slice [])) := ⟨[], rfl, .inl ⟨none, 0, rfl⟩⟩



section
variable {N : Nat} {tch : Env} {w0 : World} {fr0 : Nat → Option Nat} {S : PS} {a : Act} {w : World} {fr : Nat → Option Nat} {β : Nat → Blk}

theorem cell_alloc_new (w : World) (cs : Array Value) (E : TypeId) (k : Nat) : (w.alloc (.cells cs E)).cell? ⟨w.heap.size, k, none⟩ = cs[k]? := by
  have hn : (w.alloc (.cells cs E)).heap[w.heap.size]? = some (.cells cs E) := by
    show (w.heap.push _)[w.heap.size]? = _
    rw [Array.getElem?_push_size]
  simp only [World.cell?, hn]
  rfl

theorem heap_alloc_new' (w : World) (o : Obj) : (w.alloc o).heap[w.heap.size]? = some o := by
  show (w.heap.push _)[w.heap.size]? = _
  rw [Array.getElem?_push_size]

theorem apply_t {E : Eff} {d : Nat} (hd : E.dst = some d) (i : Nat) : (E.apply S).t i = if i = d then E.r else S.t i := by
  simp only [Eff.apply, hd, upd]
theorem apply_own_t {E : Eff} (i j : Nat) : (E.apply S).own (.t i j) = if E.dst = some i then E.ro j else S.own (.t i j) && !E.clr (.t i j) := rfl

/-- A new box (or a box that lies in another block now); its address, or a slice that is all of it, lies in a slot. -/
theorem Sim.newBox (h : Sim N tch w0 fr0 S a w fr β) {d n : Nat} (hd : d < N) {w' : World} {nb : Nat} (hfx : Fresh w fr w' (upd fr nb (some 0))) (hnb : w.heap.size ≤ nb) (cs : Array Value) (E : TypeId) (hat : w'.heap[nb]? = some (.cells cs E (0, 0)))
    (content : List PV) (ob : Nat → Bool) (clr : Loc → Bool) (r : PV) (v : Value)
    (hlen : content.length ≤ cs.size) (hc : ∀ (k : Nat) (u : Value) (p : PV), cs[k]? = some u → content[k]? = some p → PRep w fr β S.gen u p ∧ one u)
    (hob : ∀ k, ob k = true → (cs[k]? = some (.slice none 0 0) ∧ content[k]? = some (.d (.slice []))) ∨ (S.own (.b n k) = true ∧ cs[k]? = some (vat a w β (.b n k)) ∧ content[k]? = some (S.at (.b n k))))
    (hr : (r = .ptr n (S.gen n + 1) 0 ∧ v = .pointer (some ⟨nb, 0, none⟩)) ∨ ∃ l sz cap ag, 0 < sz ∧ l ≤ cap ∧ cap * sz = cs.size ∧ r = .bsl n (S.gen n + 1) l sz ag ∧ v = .slice (some ⟨nb, 0, none⟩) l cap) :
    Sim N tch w0 fr0 ((⟨some d, r, fun _ => false, clr, [⟨n, S.gen n + 1, content, ob⟩]⟩ : Eff).apply S) (a.put (some d) v) w' (upd fr nb (some 0)) (upd β n ⟨nb, cs.size⟩) := by
  have hd' : d < a.tmps.size := by rw [h.ntmps]; exact hd
  have hg : GExt β S.gen (upd β n ⟨nb, cs.size⟩) (upd S.gen n (S.gen n + 1)) := by
    refine ⟨fun m => ?_, fun m e _ => ?_⟩
    · unfold upd; split
      · subst_vars; omega
      · omega
    · unfold upd at e ⊢
      split at e
      · subst_vars; omega
      · rename_i hne; rw [if_neg hne]
  have hblt : ∀ m, 0 < S.gen m → 0 < (β m).c → (β m).b < w.heap.size := fun m hm h0 => by
    obtain ⟨c, E', hc', _⟩ := (h.boxes m hm).ex h0
    exact (Array.getElem?_eq_some_iff.1 hc').1
  have hsz := h.size
  let S' : PS := (⟨some d, r, fun _ => false, clr, [⟨n, S.gen n + 1, content, ob⟩]⟩ : Eff).apply S
  have hgm : ∀ m, S'.gen m = if m = n then S.gen n + 1 else S.gen m := by
    intro m
    show (match findU [⟨n, S.gen n + 1, content, ob⟩] m with | some u => u.g | none => S.gen m) = _
    rw [findU_one]
    by_cases e : m = n
    · subst e; simp
    · have e' : ¬ n = m := fun x => e x.symm
      simp [e, e']
  have hgen : S'.gen = upd S.gen n (S.gen n + 1) := by
    funext m
    rw [hgm]
    rfl
  have hbm : ∀ m, S'.box m = if m = n then content else S.box m := by
    intro m
    show (match findU [⟨n, S.gen n + 1, content, ob⟩] m with | some u => u.c | none => S.box m) = _
    rw [findU_one]
    by_cases e : m = n
    · subst e; simp
    · have e' : ¬ n = m := fun x => e x.symm
      simp [e, e']
  have ho_t : ∀ i j, S'.own (.t i j) = true → d ≠ i ∧ S.own (.t i j) = true := by
    intro i j ho
    have : (if (some d : Option Nat) = some i then false else S.own (.t i j) && !clr (.t i j)) = true := ho
    simp only [Option.some.injEq] at this
    split at this
    · cases this
    · rename_i hne
      simp at this
      exact ⟨hne, this.1⟩
  have ho_b : ∀ m k, S'.own (.b m k) = true → (m = n ∧ ob k = true) ∨ (m ≠ n ∧ S.own (.b m k) = true) := by
    intro m k ho
    have : (match findU [⟨n, S.gen n + 1, content, ob⟩] m with | some u => u.o k | none => S.own (.b m k) && !clr (.b m k)) = true := ho
    rw [findU_one] at this
    by_cases e : m = n
    · subst e
      simp at this
      exact .inl ⟨rfl, this⟩
    · have e' : ¬ n = m := fun x => e x.symm
      simp [e'] at this
      exact .inr ⟨e, this.1⟩
  have hcell : ∀ m k, m ≠ n → 0 < S.gen m → 0 < (β m).c → vat (a.put (some d) v) w' (upd β n ⟨nb, cs.size⟩) (.b m k) = vat a w β (.b m k) := by
    intro m k hm h0 h1
    simp only [vat]
    rw [upd_ne _ _ hm, hfx.cell (hblt m h0 h1)]
  have htmp : ∀ i j, i ≠ d → vat (a.put (some d) v) w' (upd β n ⟨nb, cs.size⟩) (.t i j) = vat a w β (.t i j) := by
    intro i j hi
    simp only [vat, put_getD hd', if_neg hi]
  have hnew : ∀ k, vat (a.put (some d) v) w' (upd β n ⟨nb, cs.size⟩) (.b n k) = (cs[k]?).getD undef := by
    intro k
    simp only [vat, World.cell?, upd_same, hat]
    rfl
  have hold : ∀ l, S'.own l = true → (vat (a.put (some d) v) w' (upd β n ⟨nb, cs.size⟩) l = .slice none 0 0 ∧ S'.at l = .d (.slice [])) ∨ (S.own l = true ∧ vat (a.put (some d) v) w' (upd β n ⟨nb, cs.size⟩) l = vat a w β l ∧ S'.at l = S.at l) := by
    intro l hl
    cases l with
    | t i j =>
      obtain ⟨hne, hl⟩ := ho_t i j hl
      refine .inr ⟨hl, htmp i j (fun e => hne e.symm), ?_⟩
      show (upd S.t d r i).part j = (S.t i).part j
      rw [upd_ne _ _ (fun e => hne e.symm)]
    | b m k =>
      rcases ho_b m k hl with ⟨e, hk⟩ | ⟨hne, hl⟩
      · subst e
        have hat' : S'.at (.b m k) = content.getD k .any := by
          show (S'.box m).getD k .any = _
          rw [hbm, if_pos rfl]
        rcases hob k hk with ⟨h1, h2⟩ | ⟨h0, h1, h2⟩
        · refine .inl ⟨by rw [hnew, h1]; rfl, ?_⟩
          rw [hat', List.getD_eq_getElem?_getD, h2]
          rfl
        · refine .inr ⟨h0, by rw [hnew, h1]; rfl, ?_⟩
          rw [hat', List.getD_eq_getElem?_getD, h2]
          rfl
      · have hlv := h.live m k hl
        refine .inr ⟨hl, hcell m k hne hlv.1 ((h.boxes m hlv.1).at hlv.2), ?_⟩
        show (S'.box m).getD k .any = (S.box m).getD k .any
        rw [hbm, if_neg hne]
  refine ⟨h.defers, by simp [Act.put, h.ntmps], hfx.os.trans h.os, hfx.tape.trans h.tape, hfx.output.trans h.output, Nat.le_trans hsz hfx.size, hfx.frb, fun b hb ht => ?_, fun b ht => ?_, fun i => ?_, fun m hm => ?_, fun m m' hm hm' hc1 hc2 e => ?_, fun l hl => ?_, fun m k hl => ?_, fun l l' hl hl' hne b hb => ?_, ?_⟩
  · have hb' := Nat.lt_of_lt_of_le hb hsz
    exact ⟨(hfx.old b hb').trans (h.frame b hb ht).1, (hfx.reg b hb').trans (h.frame b hb ht).2⟩
  · obtain ⟨hb, f0, f, e0, e, hle, hk⟩ := h.keep b ht
    have hb' := Nat.lt_of_lt_of_le hb hsz
    exact ⟨hb, f0, f, e0, by rw [hfx.reg b hb']; exact e, hle, fun k u hk0 hcc => by rw [hfx.cell hb']; exact hk k u hk0 hcc⟩
  · rw [put_getD hd']
    show PRep _ _ _ S'.gen _ (upd S.t d r i)
    rw [hgen]
    by_cases e : i = d
    · subst e
      rw [if_pos rfl, upd_same]
      rcases hr with ⟨rfl, rfl⟩ | ⟨l, sz, cap, ag, hs0, hlc, hcap, rfl, rfl⟩
      · exact .ptr _ _ _ _ (by omega) (by rw [upd_same]; omega) rfl fun _ => by rw [upd_same]
      · exact .bsl _ _ _ _ _ _ _ (by omega) (by rw [upd_same]; omega) hs0 fun _ => by rw [upd_same]; exact ⟨fun _ => rfl, hlc, hcap⟩
    · rw [if_neg e, upd_ne _ _ e]
      exact (h.vals i).mono hfx.dext hg
  · have hm : 0 < S'.gen m := hm
    show BoxOk _ _ _ _ _ S'.gen (upd β n ⟨nb, cs.size⟩ m) (S'.box m)
    rw [hbm, hgen]
    rw [hgm] at hm
    by_cases e : m = n
    · subst e
      rw [upd_same, if_pos rfl]
      refine ⟨hlen, fun _ => ⟨cs, E, hat, rfl, fun k u p hu hp => ⟨((hc k u p hu hp).1).mono hfx.dext hg, (hc k u p hu hp).2⟩⟩, fun _ => upd_same _ _ _, fun _ => .inl (Nat.le_trans hsz hnb)⟩
    · rw [if_neg e] at hm
      rw [upd_ne _ _ e, if_neg e]
      have hbx := h.boxes m hm
      refine ⟨hbx.len, fun h0 => ?_, fun h0 => ?_, hbx.mine⟩
      · obtain ⟨c, E', hc', hs', hp'⟩ := hbx.ex h0
        have hb := hblt m hm h0
        exact ⟨c, E', by rw [hfx.old _ hb]; exact hc', hs', fun k u p hu hp => ⟨(hp' k u p hu hp).1.mono hfx.dext hg, (hp' k u p hu hp).2⟩⟩
      · rw [hfx.reg _ (hblt m hm h0)]
        exact hbx.reg h0
  · have hm : 0 < S'.gen m := hm
    have hm' : 0 < S'.gen m' := hm'
    rw [hgm] at hm hm'
    by_cases e1 : m = n
    · by_cases e2 : m' = n
      · rw [e1, e2]
      · subst e1
        rw [upd_same, upd_ne _ _ e2] at e
        rw [if_neg e2] at hm'
        rw [upd_ne _ _ e2] at hc2
        have := hblt m' hm' hc2
        simp only at e
        omega
    · by_cases e2 : m' = n
      · subst e2
        rw [upd_same, upd_ne _ _ e1] at e
        rw [if_neg e1] at hm
        rw [upd_ne _ _ e1] at hc1
        have := hblt m hm hc1
        simp only at e
        omega
      · rw [upd_ne _ _ e1, upd_ne _ _ e2] at e
        rw [if_neg e1] at hm
        rw [if_neg e2] at hm'
        rw [upd_ne _ _ e1] at hc1
        rw [upd_ne _ _ e2] at hc2
        exact h.binj m m' hm hm' hc1 hc2 e
  · rcases hold l hl with ⟨e1, e2⟩ | ⟨ho, e1, e2⟩
    · rw [e1]
      show OwnOk _ _ _ _ _ (S'.at l)
      rw [e2]
      exact ownOk_nil
    · rw [e1]
      show OwnOk _ _ _ _ _ (S'.at l)
      rw [e2]
      refine (h.own l ho).same fun b hb => ?_
      have := (h.own l ho).row hb
      exact ⟨hfx.old b this, hfx.reg b this⟩
  · show 0 < S'.gen m ∧ k < (S'.box m).length
    rw [hgm, hbm]
    rcases ho_b m k hl with ⟨e, hk⟩ | ⟨hne, hl⟩
    · subst e
      rw [if_pos rfl, if_pos rfl]
      refine ⟨by omega, ?_⟩
      rcases hob k hk with ⟨_, h2⟩ | ⟨_, _, h2⟩
      · exact (List.getElem?_eq_some_iff.1 h2).1
      · exact (List.getElem?_eq_some_iff.1 h2).1
    · rw [if_neg hne, if_neg hne]
      exact h.live m k hl
  · rcases hold l hl with ⟨e1, e2⟩ | ⟨ho, e1, e2⟩
    · rw [e1] at hb
      cases hb
    · rcases hold l' hl' with ⟨e1', e2'⟩ | ⟨ho', e1', e2'⟩
      · rw [e1']
        simp [rowOf]
      · rw [e1'] 
        rw [e1] at hb
        exact h.oinj l l' ho ho' hne b hb
  · show GExt _ _ _ S'.gen
    rw [hgen]
    exact h.ext.trans hg

theorem setCells_heap_ne (b : Nat) : ∀ (vs : List Value) (o : Nat) (w : World) (k : Nat), k ≠ b → (w.setCells b o vs).heap[k]? = w.heap[k]?
  | [], _, _, _, _ => rfl
  | v :: r, o, w, k, hk => by
    unfold World.setCells
    rw [setCells_heap_ne b r (o + 1) _ k hk, Below.heap_setCell _ _ _ _ hk]
theorem setCells_rest (b : Nat) : ∀ (vs : List Value) (o : Nat) (w : World), (w.setCells b o vs).os = w.os ∧ (w.setCells b o vs).tape = w.tape ∧ (w.setCells b o vs).output = w.output ∧ (w.setCells b o vs).heap.size = w.heap.size
  | [], _, _ => ⟨rfl, rfl, rfl, rfl⟩
  | v :: r, o, w => by
    unfold World.setCells
    obtain ⟨h1, h2, h3, h4⟩ := setCells_rest b r (o + 1) (w.setCell ⟨b, o, none⟩ v)
    exact ⟨h1, h2, h3, by rw [h4]; simp [World.setCell]⟩

theorem setCell_heap_at (w : World) (b o : Nat) (v : Value) (cs : Array Value) (E : TypeId) (f : Nat × Nat) (h : w.heap[b]? = some (.cells cs E f)) :
    (w.setCell ⟨b, o, none⟩ v).heap[b]? = some (.cells (cs.setIfInBounds o v) E f) := by
  simp only [World.setCell, Array.getElem?_modify, if_true, h, Option.map_some]
  rfl
theorem setCells_heap_at (b : Nat) : ∀ (vs : List Value) (o : Nat) (w : World) (cs : List Value) (E : TypeId) (f : Nat × Nat), w.heap[b]? = some (.cells cs.toArray E f) → o + vs.length ≤ cs.length →
    (w.setCells b o vs).heap[b]? = some (.cells (cs.take o ++ vs ++ cs.drop (o + vs.length)).toArray E f)
  | [], o, w, cs, E, f, h, _ => by simpa [World.setCells] using h
  | v :: r, o, w, cs, E, f, h, hl => by
    unfold World.setCells
    simp only [List.length_cons] at hl
    have h1 := setCell_heap_at w b o v cs.toArray E f h
    rw [List.setIfInBounds_toArray] at h1
    rw [setCells_heap_at b r (o + 1) _ (cs.set o v) E f h1 (by simp; omega)]
    congr 2
    congr 1
    have hk1 : o < cs.length := by omega
    have ht : (cs.take o).length = o := by simp; omega
    have h2 : (cs.set o v).take (o + 1) = cs.take o ++ [v] := by
      rw [List.set_eq_take_append_cons_drop, if_pos hk1, List.take_append, ht, List.take_of_length_le (by omega)]
      simp
    have h3 : (cs.set o v).drop (o + 1 + r.length) = cs.drop (o + (v :: r).length) := by
      rw [List.set_eq_take_append_cons_drop, if_pos hk1, List.drop_append, ht, List.drop_eq_nil_of_le (by omega), List.nil_append, show o + 1 + r.length - o = r.length + 1 by omega, List.drop_succ_cons, List.drop_drop]
      congr 1
      simp only [List.length_cons]
      omega
    rw [h2, h3]
    simp

/-- A box is written. -/
theorem Sim.setBox (h : Sim N tch w0 fr0 S a w fr β) {n off : Nat} (hn : 0 < S.gen n) (vs : List Value) (ps : List PV) (clr : Loc → Bool) (ob : Nat → Bool)
    (hclr : ∀ m k, clr (.b m k) = false) (hlen : vs.length = ps.length) (hoff : off ≤ (S.box n).length) (hle : off + ps.length ≤ (β n).c) (hc0 : 0 < (β n).c) (hv : ∀ (k : Nat) (u : Value) (p : PV), vs[k]? = some u → ps[k]? = some p → PRep w fr β S.gen u p ∧ one u)
    (hob : ∀ k, ob k = true → (k < off ∨ off + ps.length ≤ k) ∧ S.own (.b n k) = true ∨
      ∃ j l, k = off + j ∧ j < ps.length ∧ (vs[j]? = some (.slice none 0 0) ∧ ps[j]? = some (.d (.slice [])) ∨ (S.own l = true ∧ clr l = true ∧ ps.length = 1 ∧ vs[j]? = some (vat a w β l) ∧ ps[j]? = some (S.at l)))) :
    Sim N tch w0 fr0 ((⟨none, .undef, fun _ => false, clr, [⟨n, S.gen n, (S.box n).take off ++ ps ++ (S.box n).drop (off + ps.length), ob⟩]⟩ : Eff).apply S) a (w.setCells (β n).b off vs) fr β := by
  have hbn := h.boxes n hn
  obtain ⟨cs, E, hc, hcs, hcp⟩ := hbn.ex hc0
  have hreg := hbn.reg hc0
  have hmine := hbn.mine hc0
  have hbl := hbn.len
  have hcl : cs = cs.toList.toArray := (Array.toArray_toList (xs := cs)).symm
  have hcsl : cs.toList.length = (β n).c := by rw [← hcs]; simp
  obtain ⟨r1, r2, r3, r4⟩ := setCells_rest (β n).b vs off w
  have hat : (w.setCells (β n).b off vs).heap[(β n).b]? = some (.cells (cs.toList.take off ++ vs ++ cs.toList.drop (off + vs.length)).toArray E (0, 0)) :=
    setCells_heap_at (β n).b vs off w cs.toList E (0, 0) (by rw [Array.toArray_toList]; exact hc) (by rw [hcsl, hlen]; exact hle)
  have hne : ∀ b, b ≠ (β n).b → (w.setCells (β n).b off vs).heap[b]? = w.heap[b]? := fun b hb => setCells_heap_ne (β n).b vs off w b hb
  have hcell : ∀ b o, b ≠ (β n).b → (w.setCells (β n).b off vs).cell? ⟨b, o, none⟩ = w.cell? ⟨b, o, none⟩ := fun b o hb => World.cell?_of_block (w := w) (hne b hb)
  have hx : DExt w fr (w.setCells (β n).b off vs) fr := by
    refine ⟨fun b o u hcc hf => ?_, fun b f' _ hf => ⟨f', hf, Nat.le_refl _⟩, by rw [r4]; exact Nat.le_refl _⟩
    have hb : b ≠ (β n).b := by
      intro e
      subst e
      exact absurd (hf 0 hreg) (by omega)
    rw [hcell b o hb]
    exact hcc
  have hnewcell : ∀ k, (w.setCells (β n).b off vs).cell? ⟨(β n).b, k, none⟩ = (cs.toList.take off ++ vs ++ cs.toList.drop (off + vs.length))[k]? := by
    intro k
    simp only [World.cell?, hat]
    simp
  have holdcell : ∀ k, w.cell? ⟨(β n).b, k, none⟩ = cs.toList[k]? := by
    intro k
    simp only [World.cell?, hc]
    simp
  let E' : Eff := ⟨none, .undef, fun _ => false, clr, [⟨n, S.gen n, (S.box n).take off ++ ps ++ (S.box n).drop (off + ps.length), ob⟩]⟩
  have hgen : ∀ m, (E'.apply S).gen m = S.gen m := by
    intro m
    show (match findU [⟨n, S.gen n, (S.box n).take off ++ ps ++ (S.box n).drop (off + ps.length), ob⟩] m with | some u => u.g | none => S.gen m) = S.gen m
    rw [findU_one]
    by_cases e : n = m
    · subst e; simp
    · simp [e]
  have hgen' : (E'.apply S).gen = S.gen := funext hgen
  have hboxn : (E'.apply S).box n = (S.box n).take off ++ ps ++ (S.box n).drop (off + ps.length) := by
    show (match findU [⟨n, S.gen n, (S.box n).take off ++ ps ++ (S.box n).drop (off + ps.length), ob⟩] n with | some u => u.c | none => S.box n) = _
    simp [findU_one]
  have hboxm : ∀ m, m ≠ n → (E'.apply S).box m = S.box m := fun m hm => by
    show (match findU [⟨n, S.gen n, (S.box n).take off ++ ps ++ (S.box n).drop (off + ps.length), ob⟩] m with | some u => u.c | none => S.box m) = _
    have e : ¬ n = m := fun x => hm x.symm
    simp [findU_one, e]
  have hot : ∀ i j, (E'.apply S).own (.t i j) = (S.own (.t i j) && !clr (.t i j)) := fun i j => rfl
  have hob' : ∀ m k, (E'.apply S).own (.b m k) = if m = n then ob k else S.own (.b m k) && !clr (.b m k) := fun m k => by
    show (match findU [⟨n, S.gen n, (S.box n).take off ++ ps ++ (S.box n).drop (off + ps.length), ob⟩] m with | some u => u.o k | none => S.own (.b m k) && !clr (.b m k)) = _
    rw [findU_one]
    by_cases e : m = n
    · subst e; simp
    · have e' : ¬ n = m := fun x => e x.symm
      simp [e, e']
  -- where an own place came from
  have hold : ∀ l, (E'.apply S).own l = true → ((∃ k j, l = .b n k ∧ k = off + j ∧ vs[j]? = some (.slice none 0 0) ∧ ps[j]? = some (.d (.slice [])) ∧ vat a (w.setCells (β n).b off vs) β l = .slice none 0 0 ∧ (E'.apply S).at l = .d (.slice [])) ∨
      ∃ l0, S.own l0 = true ∧ (l0 = l ∧ (clr l = false ∨ ∃ k, l = .b n k ∧ (k < off ∨ off + ps.length ≤ k)) ∨ (clr l0 = true ∧ ps.length = 1 ∧ l = .b n off)) ∧ vat a (w.setCells (β n).b off vs) β l = vat a w β l0 ∧ (E'.apply S).at l = S.at l0) := by
    intro l hl
    cases l with
    | t i j =>
      rw [hot] at hl
      simp at hl
      exact .inr ⟨.t i j, hl.1, .inl ⟨rfl, .inl hl.2⟩, rfl, rfl⟩
    | b m k =>
      rw [hob'] at hl
      split at hl
      · rename_i e
        subst e
        rcases hob k hl with ⟨hk, ho⟩ | ⟨j, l0, rfl, hj, hh⟩
        · refine .inr ⟨.b m k, ho, .inl ⟨rfl, .inr ⟨k, rfl, hk⟩⟩, ?_, ?_⟩
          · simp only [vat]
            rw [hnewcell, holdcell, List.append_assoc]
            rcases hk with hk | hk
            · rw [List.getElem?_append_left (by simp; omega), List.getElem?_take, if_pos hk]
            · rw [List.getElem?_append_right (by simp; omega), List.getElem?_append_right (by simp; omega), List.getElem?_drop]
              congr 2
              simp
              omega
          · show ((E'.apply S).box m).getD k .any = (S.box m).getD k .any
            rw [hboxn, List.getD_eq_getElem?_getD, List.getD_eq_getElem?_getD, List.append_assoc]
            rcases hk with hk | hk
            · rw [List.getElem?_append_left (by simp; omega), List.getElem?_take, if_pos hk]
            · rw [List.getElem?_append_right (by simp; omega), List.getElem?_append_right (by simp; omega), List.getElem?_drop]
              congr 2
              simp
              omega
        · have hv1 : vat a (w.setCells (β m).b off vs) β (.b m (off + j)) = (vs[j]?).getD undef := by
            simp only [vat]
            rw [hnewcell, List.append_assoc, List.getElem?_append_right (by simp; omega), List.getElem?_append_left (by simp; omega)]
            congr 2
            simp
            omega
          have hp1 : (E'.apply S).at (.b m (off + j)) = (ps[j]?).getD .any := by
            show ((E'.apply S).box m).getD (off + j) .any = _
            rw [hboxn, List.getD_eq_getElem?_getD, List.append_assoc, List.getElem?_append_right (by simp; omega), List.getElem?_append_left (by simp; omega)]
            congr 2
            simp
            omega
          rcases hh with ⟨hh1, hh2⟩ | ⟨ho, hclr, h1, hh1, hh2⟩
          · exact .inl ⟨off + j, j, rfl, rfl, hh1, hh2, by rw [hv1, hh1]; rfl, by rw [hp1, hh2]; rfl⟩
          · have hj0 : j = 0 := by omega
            subst hj0
            exact .inr ⟨l0, ho, .inr ⟨hclr, h1, rfl⟩, by rw [hv1, hh1]; rfl, by rw [hp1, hh2]; rfl⟩
      · rename_i hne
        simp at hl
        refine .inr ⟨.b m k, hl.1, .inl ⟨rfl, .inl hl.2⟩, ?_, ?_⟩
        · simp only [vat]
          rw [hcell]
          intro e
          have hlv := h.live m k hl.1
          exact hne (h.binj m n hlv.1 hn ((h.boxes m hlv.1).at hlv.2) hc0 e)
        · show ((E'.apply S).box m).getD k .any = (S.box m).getD k .any
          rw [hboxm m hne]
  refine ⟨h.defers, h.ntmps, r1.trans h.os, r2.trans h.tape, r3.trans h.output, by rw [r4]; exact h.size, fun b f hf => by rw [r4]; exact h.frb b f hf, fun b hb ht => ?_, fun b ht => ?_, fun i => ?_, fun m hm => ?_, fun m m' hm hm' h1 h2 e => ?_, fun l hl => ?_, fun m k hl => ?_, fun l l' hl hl' hnel b hb => ?_, by rw [hgen']; exact h.ext⟩
  · have hb' : b ≠ (β n).b := by
      intro e
      subst e
      rcases hmine with hm | hm
      · omega
      · exact ht hm
    exact ⟨(hne b hb').trans (h.frame b hb ht).1, (h.frame b hb ht).2⟩
  · obtain ⟨hb, f0, f, e0, e, hle', hk⟩ := h.keep b ht
    refine ⟨hb, f0, f, e0, e, hle', fun k u hk0 hcc => ?_⟩
    have hb' : b ≠ (β n).b := by
      intro e'
      subst e'
      rw [hreg] at e
      cases e
      omega
    rw [hcell b k hb']
    exact hk k u hk0 hcc
  · rw [hgen']
    exact (h.vals i).mono hx (GExt.refl _ _)
  · rw [hgen'] at hm ⊢
    by_cases e : m = n
    · subst e
      rw [hboxn]
      refine ⟨by simp; omega, fun _ => ⟨_, E, hat, ?_, fun k u p hu hp => ?_⟩, fun _ => hreg, fun _ => hmine⟩
      · simp at hcsl ⊢
        omega
      · rw [List.getElem?_toArray, List.append_assoc] at hu
        rw [List.append_assoc] at hp
        by_cases c1 : k < off
        · rw [List.getElem?_append_left (by simp; omega), List.getElem?_take, if_pos c1] at hu hp
          have := hcp k u p (by simpa using hu) hp
          exact ⟨this.1.mono hx (GExt.refl _ _), this.2⟩
        · rw [List.getElem?_append_right (by simp; omega)] at hu hp
          have el : (cs.toList.take off).length = off := by simp; omega
          have el' : ((S.box m).take off).length = off := by simp; omega
          rw [el] at hu
          rw [el'] at hp
          by_cases c2 : k - off < ps.length
          · rw [List.getElem?_append_left (by omega)] at hu hp
            have := hv _ u p hu hp
            exact ⟨this.1.mono hx (GExt.refl _ _), this.2⟩
          · rw [List.getElem?_append_right (by omega), List.getElem?_drop] at hu hp
            rw [hlen] at hu
            have := hcp _ u p (by simpa using hu) hp
            exact ⟨this.1.mono hx (GExt.refl _ _), this.2⟩
    · rw [hboxm m e]
      have hbm := h.boxes m hm
      refine ⟨hbm.len, fun h0 => ?_, hbm.reg, hbm.mine⟩
      obtain ⟨c, E2, hc2, hs2, hp2⟩ := hbm.ex h0
      refine ⟨c, E2, ?_, hs2, fun k u p hu hp => ⟨(hp2 k u p hu hp).1.mono hx (GExt.refl _ _), (hp2 k u p hu hp).2⟩⟩
      rw [hne _ fun e' => e (h.binj m n hm hn h0 hc0 e')]
      exact hc2
  · rw [hgen'] at hm hm'
    exact h.binj m m' hm hm' h1 h2 e
  · rcases hold l hl with ⟨k, j, rfl, rfl, h1, h2, e1, e2⟩ | ⟨l0, ho, _, e1, e2⟩
    · rw [e1, e2]
      exact ownOk_nil
    · rw [e1, e2]
      refine (h.own l0 ho).same fun b hb => ⟨hne b fun e => ?_, rfl⟩
      subst e
      obtain ⟨xs, hxs, hh⟩ := h.own l0 ho
      rcases hh with ⟨A, q, hq⟩ | ⟨b', c, cur, E2, sz, hq, h1, h2, h20, h3, h4, h5, h6, h7⟩
      · rw [hq] at hb
        cases A <;> simp [rowOf] at hb
      · rw [hq] at hb
        have e : b' = (β n).b := by simpa [rowOf, h1] using hb
        rw [e, hreg] at h6
        have hz : xs.length * sz = 0 := by simpa using h6.symm
        rcases Nat.mul_eq_zero.1 hz with h' | h' <;> omega
  · rw [hgen']
    rw [hob'] at hl
    split at hl
    · rename_i e
      subst e
      refine ⟨hn, ?_⟩
      rw [hboxn]
      rcases hob k hl with ⟨_, ho⟩ | ⟨j, l0, rfl, hj, _⟩
      · have := (h.live m k ho).2
        simp
        omega
      · simp
        omega
    · rename_i hne2
      simp at hl
      rw [hboxm m hne2]
      exact h.live m k hl.1
  · rcases hold l hl with ⟨k, j, rfl, rfl, h1, h2, e1, e2⟩ | ⟨l0, ho, hw, e1, e2⟩
    · rw [e1] at hb
      simp [rowOf] at hb
    · rcases hold l' hl' with ⟨k', j', rfl, rfl, h1', h2', e1', e2'⟩ | ⟨l0', ho', hw', e1', e2'⟩
      · rw [e1']
        simp [rowOf]
      · rw [e1']
        rw [e1] at hb
        refine h.oinj l0 l0' ho ho' (fun e => ?_) b hb
        subst e
        rcases hw with ⟨rfl, hw⟩ | ⟨hc1, _, rfl⟩
        · rcases hw' with ⟨rfl, _⟩ | ⟨hc2, _, rfl⟩
          · exact hnel rfl
          · rcases hw with hw | ⟨k, rfl, _⟩
            · rw [hw] at hc2
              cases hc2
            · rw [hclr] at hc2
              cases hc2
        · rcases hw' with ⟨rfl, hw'⟩ | ⟨hc2, _, rfl⟩
          · rcases hw' with hw' | ⟨k, rfl, _⟩
            · rw [hw'] at hc1
              cases hc1
            · rw [hclr] at hc1
              cases hc1
          · exact hnel rfl

/-- A box comes to a new turn (or begins, without memory); a slice that is all of it lies in a slot. -/
theorem Sim.bumpR (h : Sim N tch w0 fr0 S a w fr β) {d n : Nat} (hd : d < N) (B : Blk) (content : List PV) (ob : Nat → Bool) (clr : Loc → Bool) (v : Value) (r : PV) (ro : Nat → Bool)
    (hB : (0 < S.gen n ∧ B = β n ∧ content = S.box n ∧ ∀ k, ob k = true → S.own (.b n k) = true) ∨ (B.c = 0 ∧ content = [] ∧ ∀ k, ob k = false))
    (hr : PRep w fr (upd β n B) (upd S.gen n (S.gen n + 1)) v r) (hro : ∀ j, ro j = true → vpart v j = .slice none 0 0 ∧ r.part j = .d (.slice [])) :
    Sim N tch w0 fr0 ((⟨some d, r, ro, clr, [⟨n, S.gen n + 1, content, ob⟩]⟩ : Eff).apply S) (a.put (some d) v) w fr (upd β n B) := by
  have hd' : d < a.tmps.size := by rw [h.ntmps]; exact hd
  have hdx : DExt w fr w fr := DExt.refl w fr
  have hg : GExt β S.gen (upd β n B) (upd S.gen n (S.gen n + 1)) := by
    refine ⟨fun m => ?_, fun m e _ => ?_⟩
    · unfold upd; split
      · subst_vars; omega
      · omega
    · unfold upd at e ⊢
      split at e
      · subst_vars; omega
      · rename_i hne; rw [if_neg hne]
  let S' : PS := (⟨some d, r, ro, clr, [⟨n, S.gen n + 1, content, ob⟩]⟩ : Eff).apply S
  have hgm : ∀ m, S'.gen m = if m = n then S.gen n + 1 else S.gen m := by
    intro m
    show (match findU [⟨n, S.gen n + 1, content, ob⟩] m with | some u => u.g | none => S.gen m) = _
    rw [findU_one]
    by_cases e : m = n
    · subst e; simp
    · have e' : ¬ n = m := fun x => e x.symm
      simp [e, e']
  have hgen : S'.gen = upd S.gen n (S.gen n + 1) := by
    funext m
    rw [hgm]
    rfl
  have hbm : ∀ m, S'.box m = if m = n then content else S.box m := by
    intro m
    show (match findU [⟨n, S.gen n + 1, content, ob⟩] m with | some u => u.c | none => S.box m) = _
    rw [findU_one]
    by_cases e : m = n
    · subst e; simp
    · have e' : ¬ n = m := fun x => e x.symm
      simp [e, e']
  have ho_t : ∀ i j, S'.own (.t i j) = true → (d = i ∧ ro j = true) ∨ (d ≠ i ∧ S.own (.t i j) = true) := by
    intro i j ho
    have : (if (some d : Option Nat) = some i then ro j else S.own (.t i j) && !clr (.t i j)) = true := ho
    simp only [Option.some.injEq] at this
    split at this
    · rename_i e
      exact .inl ⟨e, this⟩
    · rename_i hne
      simp at this
      exact .inr ⟨hne, this.1⟩
  have ho_b : ∀ m k, S'.own (.b m k) = true → (m = n ∧ ob k = true) ∨ (m ≠ n ∧ S.own (.b m k) = true) := by
    intro m k ho
    have : (match findU [⟨n, S.gen n + 1, content, ob⟩] m with | some u => u.o k | none => S.own (.b m k) && !clr (.b m k)) = true := ho
    rw [findU_one] at this
    by_cases e : m = n
    · subst e
      simp at this
      exact .inl ⟨rfl, this⟩
    · have e' : ¬ n = m := fun x => e x.symm
      simp [e'] at this
      exact .inr ⟨e, this.1⟩
  have hold : ∀ l', S'.own l' = true → (vat (a.put (some d) v) w (upd β n B) l' = .slice none 0 0 ∧ S'.at l' = .d (.slice [])) ∨ (S.own l' = true ∧ vat (a.put (some d) v) w (upd β n B) l' = vat a w β l' ∧ S'.at l' = S.at l') := by
    intro l' hl
    cases l' with
    | t i j =>
      rcases ho_t i j hl with ⟨rfl, hj⟩ | ⟨hne, hl⟩
      · left
        obtain ⟨q1, q2⟩ := hro j hj
        refine ⟨by simp only [vat, put_getD hd', if_true]; exact q1, ?_⟩
        show (upd S.t d _ d).part j = _
        rw [upd_same, q2]
      right
      refine ⟨hl, by simp only [vat, put_getD hd', if_neg (fun e => hne (Eq.symm e))], ?_⟩
      show (upd S.t d _ i).part j = (S.t i).part j
      rw [upd_ne _ _ (fun e => hne e.symm)]
    | b m k =>
      right
      rcases ho_b m k hl with ⟨e, hk⟩ | ⟨hne, hl⟩
      · subst e
        rcases hB with ⟨h0, e1, e2, e3⟩ | ⟨_, _, e3⟩
        · subst e1 e2
          refine ⟨e3 k hk, by simp only [vat, upd_same], ?_⟩
          show (S'.box m).getD k .any = _
          rw [hbm, if_pos rfl]
          rfl
        · rw [e3 k] at hk
          cases hk
      · refine ⟨hl, by simp only [vat, upd_ne _ _ hne], ?_⟩
        show (S'.box m).getD k .any = (S.box m).getD k .any
        rw [hbm, if_neg hne]
  refine ⟨h.defers, by simp [Act.put, h.ntmps], h.os, h.tape, h.output, h.size, h.frb, h.frame, h.keep, fun i => ?_, fun m hm => ?_, fun m m' hm hm' hc1 hc2 e => ?_, fun l' hl => ?_, fun m k hl => ?_, fun l1 l2 hl hl' hne b hb => ?_, ?_⟩
  · rw [put_getD hd']
    show PRep _ _ _ S'.gen _ (upd S.t d _ i)
    rw [hgen]
    by_cases e : i = d
    · subst e
      rw [if_pos rfl, upd_same]
      exact hr
    · rw [if_neg e, upd_ne _ _ e]
      exact (h.vals i).mono hdx hg
  · have hm : 0 < S'.gen m := hm
    show BoxOk _ _ _ _ _ S'.gen (upd β n B m) (S'.box m)
    rw [hbm, hgen]
    rw [hgm] at hm
    by_cases e : m = n
    · subst e
      rw [upd_same, if_pos rfl]
      rcases hB with ⟨h0, e1, e2, _⟩ | ⟨e1, e2, _⟩
      · subst e1 e2
        have hbx := h.boxes m h0
        refine ⟨hbx.len, fun h0 => ?_, hbx.reg, hbx.mine⟩
        obtain ⟨c, E', hc', hs', hp'⟩ := hbx.ex h0
        exact ⟨c, E', hc', hs', fun k u p hu hp => ⟨(hp' k u p hu hp).1.mono hdx hg, (hp' k u p hu hp).2⟩⟩
      · subst e2
        exact ⟨by simp, fun h0 => absurd h0 (by omega), fun h0 => absurd h0 (by omega), fun h0 => absurd h0 (by omega)⟩
    · rw [if_neg e] at hm
      rw [upd_ne _ _ e, if_neg e]
      have hbx := h.boxes m hm
      refine ⟨hbx.len, fun h0 => ?_, hbx.reg, hbx.mine⟩
      obtain ⟨c, E', hc', hs', hp'⟩ := hbx.ex h0
      exact ⟨c, E', hc', hs', fun k u p hu hp => ⟨(hp' k u p hu hp).1.mono hdx hg, (hp' k u p hu hp).2⟩⟩
  · have hm : 0 < S'.gen m := hm
    have hm' : 0 < S'.gen m' := hm'
    rw [hgm] at hm hm'
    by_cases e1 : m = n
    · by_cases e2 : m' = n
      · rw [e1, e2]
      · subst e1
        rw [upd_same, upd_ne _ _ e2] at e
        rw [upd_same] at hc1
        rw [upd_ne _ _ e2] at hc2
        rw [if_neg e2] at hm'
        rcases hB with ⟨h0, q1, _, _⟩ | ⟨q1, _, _⟩
        · subst q1
          exact h.binj m m' h0 hm' hc1 hc2 e
        · omega
    · by_cases e2 : m' = n
      · subst e2
        rw [upd_same, upd_ne _ _ e1] at e
        rw [upd_same] at hc2
        rw [upd_ne _ _ e1] at hc1
        rw [if_neg e1] at hm
        rcases hB with ⟨h0, q1, _, _⟩ | ⟨q1, _, _⟩
        · subst q1
          exact h.binj m m' hm h0 hc1 hc2 e
        · omega
      · rw [upd_ne _ _ e1, upd_ne _ _ e2] at e
        rw [if_neg e1] at hm
        rw [if_neg e2] at hm'
        rw [upd_ne _ _ e1] at hc1
        rw [upd_ne _ _ e2] at hc2
        exact h.binj m m' hm hm' hc1 hc2 e
  · rcases hold l' hl with ⟨e1, e2⟩ | ⟨ho, e1, e2⟩
    · rw [e1]
      show OwnOk _ _ _ _ _ (S'.at l')
      rw [e2]
      exact ownOk_nil
    · rw [e1]
      show OwnOk _ _ _ _ _ (S'.at l')
      rw [e2]
      exact h.own l' ho
  · show 0 < S'.gen m ∧ k < (S'.box m).length
    rw [hgm, hbm]
    rcases ho_b m k hl with ⟨e, hk⟩ | ⟨hne, hl⟩
    · subst e
      rw [if_pos rfl, if_pos rfl]
      rcases hB with ⟨h0, _, e2, e3⟩ | ⟨_, _, e3⟩
      · subst e2
        exact ⟨by omega, (h.live m k (e3 k hk)).2⟩
      · rw [e3 k] at hk
        cases hk
    · rw [if_neg hne, if_neg hne]
      exact h.live m k hl
  · rcases hold l1 hl with ⟨e1, _⟩ | ⟨ho, e1, _⟩
    · rw [e1] at hb
      simp [rowOf] at hb
    · rcases hold l2 hl' with ⟨e1', _⟩ | ⟨ho', e1', _⟩
      · rw [e1']
        simp [rowOf]
      · rw [e1] at hb
        rw [e1']
        exact h.oinj l1 l2 ho ho' hne b hb
  · show GExt _ _ _ S'.gen
    rw [hgen]
    exact h.ext.trans hg
/-- A box comes to a new turn; a slice that is all of it lies in a slot. -/
theorem Sim.bump (h : Sim N tch w0 fr0 S a w fr β) {d n : Nat} (hd : d < N) (B : Blk) (content : List PV) (ob : Nat → Bool) (clr : Loc → Bool) (v : Value) (l sz cap : Nat) (ag : Bool) (A : Option Addr)
    (hB : (0 < S.gen n ∧ B = β n ∧ content = S.box n ∧ ∀ k, ob k = true → S.own (.b n k) = true) ∨ (B.c = 0 ∧ content = [] ∧ ∀ k, ob k = false))
    (hs0 : 0 < sz) (hlc : l ≤ cap) (hcap : cap * sz = B.c) (hA : 0 < B.c → A = some ⟨B.b, 0, none⟩) (hv : v = .slice A l cap) :
    Sim N tch w0 fr0 ((⟨some d, .bsl n (S.gen n + 1) l sz ag, fun _ => false, clr, [⟨n, S.gen n + 1, content, ob⟩]⟩ : Eff).apply S) (a.put (some d) v) w fr (upd β n B) := by
  subst hv
  exact h.bumpR hd B content ob clr _ _ _ hB (.bsl _ _ _ _ _ _ _ (by omega) (by rw [upd_same]; omega) hs0 fun _ => by rw [upd_same]; exact ⟨hA, hlc, hcap⟩) (by simp)

end

end BoEng
