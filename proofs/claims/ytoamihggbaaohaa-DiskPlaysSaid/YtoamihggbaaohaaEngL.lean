/- Appends to slices of one's own: the frame and the world follow. -/
import Derived.Test.YtoamihggbaaohaaEngK
namespace BoEng
set_option linter.unusedSimpArgs false
set_option linter.unusedVariables false
open Go Go.RowKit

section
variable {N : Nat} {tch : Env} {w0 : World} {fr0 : Nat → Option Nat} {S : PS} {a : Act} {w : World} {fr : Nat → Option Nat} {β : Nat → Blk}

def PS.clear (S : PS) (clr : Loc → Bool) : PS := { S with own := fun l => S.own l && !clr l }

theorem Sim.clear (h : Sim N tch w0 fr0 S a w fr β) (clr : Loc → Bool) : Sim N tch w0 fr0 (S.clear clr) a w fr β := by
  have hc : ∀ l, (S.clear clr).own l = true → S.own l = true := fun l hl => by simp [PS.clear] at hl; exact hl.1
  have hat : ∀ l, (S.clear clr).at l = S.at l := fun l => by cases l <;> rfl
  exact ⟨h.defers, h.ntmps, h.os, h.tape, h.output, h.size, h.frb, h.frame, h.keep, h.vals, h.boxes, h.binj, fun l hl => by rw [hat]; exact h.own l (hc l hl), fun n k hl => h.live n k (hc _ hl),
    fun l l' hl hl' => h.oinj l l' (hc l hl) (hc l' hl'), h.ext⟩

/-- A registered row is written behind its frontier, and the frontier moves. -/
theorem Sim.rowWrite (h : Sim N tch w0 fr0 S a w fr β) {b f : Nat} {cur : Array Value} {E : TypeId} (hb : w.heap[b]? = some (.cells cur E (0, 0))) (hf : fr b = some f) (hf0 : 0 < f) (hm : w0.heap.size ≤ b ∨ tch b)
    (news : List Value) (f' : Nat) (hff : f ≤ f') (hno : ∀ l, S.own l = true → rowOf (vat a w β l) ≠ some b) :
    Sim N tch w0 fr0 S a (w.setCells b f news) (upd fr b (some f')) β := by
  obtain ⟨r1, r2, r3, r4⟩ := setCells_rest b news f w
  have hne : ∀ b', b' ≠ b → (w.setCells b f news).heap[b']? = w.heap[b']? := fun b' hb' => setCells_heap_ne b news f w b' hb'
  have hcell : ∀ b' o, b' ≠ b → (w.setCells b f news).cell? ⟨b', o, none⟩ = w.cell? ⟨b', o, none⟩ := fun b' o hb' => World.cell?_of_block (w := w) (hne b' hb')
  have hlow : ∀ o, o < f → (w.setCells b f news).cell? ⟨b, o, none⟩ = w.cell? ⟨b, o, none⟩ := fun o ho =>
    World.cell?_setCells_out b news f w ⟨b, o, none⟩ fun _ _ => .inl ho
  have hx : DExt w fr (w.setCells b f news) (upd fr b (some f')) := by
    refine ⟨fun b' o u hcc hfr => ?_, fun b' f2 _ h2 => ?_, by rw [r4]; exact Nat.le_refl _⟩
    · by_cases e : b' = b
      · subst e
        rw [hlow o (hfr f hf)]
        exact hcc
      · rw [hcell b' o e]
        exact hcc
    · by_cases e : b' = b
      · subst e
        rw [upd_same] at h2
        cases h2
        exact ⟨f, hf, hff⟩
      · rw [upd_ne _ _ e] at h2
        exact ⟨f2, h2, Nat.le_refl _⟩
  have hbox : ∀ m, 0 < S.gen m → 0 < (β m).c → (β m).b ≠ b := by
    intro m hm h0 e
    have := (h.boxes m hm).reg h0
    rw [e, hf] at this
    cases this
    omega
  have hbs : b < w.heap.size := (Array.getElem?_eq_some_iff.1 hb).1
  have hvat : ∀ l, S.own l = true → vat a (w.setCells b f news) β l = vat a w β l := by
    intro l hl
    cases l with
    | t i j => rfl
    | b n k =>
      simp only [vat]
      have hlv := h.live n k hl
      rw [hcell _ _ (hbox n hlv.1 ((h.boxes n hlv.1).at hlv.2))]
  refine ⟨h.defers, h.ntmps, r1.trans h.os, r2.trans h.tape, r3.trans h.output, by rw [r4]; exact h.size, fun b' f2 h2 => ?_, fun b' hb' ht => ?_, fun b' ht => ?_, fun i => (h.vals i).mono hx (GExt.refl _ _), fun m hm => ?_, h.binj, fun l hl => ?_, h.live, fun l l' hl hl' hnel b' hb' => ?_, h.ext⟩
  · rw [r4]
    by_cases e : b' = b
    · rw [e]; exact hbs
    · rw [upd_ne _ _ e] at h2
      exact h.frb b' f2 h2
  · have e : b' ≠ b := by
      intro e
      subst e
      rcases hm with hm | hm
      · omega
      · exact ht hm
    exact ⟨(hne b' e).trans (h.frame b' hb' ht).1, (upd_ne _ _ e).trans (h.frame b' hb' ht).2⟩
  · obtain ⟨hb', f0, f1, e0, e1, hle, hk⟩ := h.keep b' ht
    by_cases e : b' = b
    · subst e
      rw [hf] at e1
      cases e1
      exact ⟨hb', f0, f', e0, upd_same _ _ _, Nat.le_trans hle hff, fun k u hk0 hcc => by rw [hlow k (by omega)]; exact hk k u hk0 hcc⟩
    · exact ⟨hb', f0, f1, e0, by rw [upd_ne _ _ e]; exact e1, hle, fun k u hk0 hcc => by rw [hcell b' k e]; exact hk k u hk0 hcc⟩
  · have hbm := h.boxes m hm
    refine ⟨hbm.len, fun h0 => ?_, fun h0 => by rw [upd_ne _ _ (hbox m hm h0)]; exact hbm.reg h0, hbm.mine⟩
    obtain ⟨c, E2, hc2, hs2, hp2⟩ := hbm.ex h0
    exact ⟨c, E2, by rw [hne _ (hbox m hm h0)]; exact hc2, hs2, fun k u p hu hp => ⟨(hp2 k u p hu hp).1.mono hx (GExt.refl _ _), (hp2 k u p hu hp).2⟩⟩
  · rw [hvat l hl]
    refine (h.own l hl).same fun b' hb' => ?_
    have e : b' ≠ b := by
      intro e
      subst e
      exact hno l hl hb'
    exact ⟨hne b' e, upd_ne _ _ e⟩
  · rw [hvat l hl] at hb'
    rw [hvat l' hl']
    exact h.oinj l l' hl hl' hnel b' hb'

theorem zeroCells_size (z : Value) (n : Nat) : (Builtin.zeroCells z.cells n).size = n * z.cells.size := by simp [Builtin.zeroCells]

/-- The law of appends. -/
theorem Sim.append {P : Program} (h : Sim N tch w0 fr0 S a w fr β) {dst : Option Nat} (hdst : ∀ d, dst = some d → d < N) {s : Nat} {xs ys : List DV} (hs : S.t s = .d (.slice xs)) (hown : S.own (.t s 0) = true)
    {t tx ty e : TypeId} {i : TypeInfo} {z x : Value} {m : Nat} {news : List Value} (ht : P.underlying t = some (.slice e)) (hi : P.info? e = some i) (hz : i.zero = some z) (hzs : z.cells.size = i.size) (hpos : 0 < i.size)
    (hsrc : ASrc P i.size i.bytes z tx x m news w) (hm : m = ys.length) (hnews : CRep w fr news (flat ys)) (hzx : ∀ x ∈ xs, (cells x).length = i.size) (hzy : ∀ x ∈ ys, (cells x).length = i.size)
    (hb0 : 0 < i.bytes) (hb : (xs.length + ys.length) * i.bytes ≤ 140737488355328) :
    ∃ v w' fr', (Builtin.append_ #[t, tx] ty #[a.tmps.getD s undef, x]).run P w = .ok v w' ∧ Sim N tch w0 fr0 ((⟨dst, .d (.slice (xs ++ ys)), fun j => j == 0, slotOf s, []⟩ : Eff).apply S) (a.put dst v) w' fr' β := by
  have hv := h.vals s
  rw [hs] at hv
  have ho := h.own _ hown
  obtain ⟨A, cap, sz, us, ev, hcap, hsz, ha, h1, hh⟩ := slice_inv (inv_d hv)
  have hvs : vat a w β (.t s 0) = .slice A xs.length cap := by simp only [vat, ev]; rfl
  rw [hvs] at ho
  rw [ev]
  have hlen : xs.length + ys.length ≤ 140737488355328 := Nat.le_trans (Nat.le_mul_of_pos_right _ hb0) hb
  have h63 : ((xs.length + m : Nat) : Int) ≤ 9223372036854775807 := by omega
  have hnl : news.length = ys.length * i.size := by rw [hnews.1, flat_length hzy]
  have hesz : 0 < xs.length → sz = i.size := by
    intro h0
    obtain ⟨q, hq⟩ := List.exists_mem_of_length_pos h0
    rw [← hsz q hq, hzx q hq]
  have hall : ∀ q ∈ xs ++ ys, (cells q).length = i.size := by
    intro q hq
    rcases List.mem_append.1 hq with hq | hq
    · exact hzx q hq
    · exact hzy q hq
  -- the old cells, as a list
  obtain ⟨olds, holds⟩ : ∃ olds : List Value, olds = (List.range (xs.length * i.size)).map us := ⟨_, rfl⟩
  have hol : olds.length = xs.length * i.size := by simp [holds]
  have hog : ∀ k, k < xs.length * i.size → olds[k]? = some (us k) := by
    intro k hk
    simp [holds, hk]
  have hoR : CRep w fr olds (flat xs) := by
    refine ⟨by rw [hol, flat_length hzx], fun u hu => ?_, fun k u p hu hp => ?_⟩
    · simp only [holds, List.mem_map, List.mem_range] at hu
      obtain ⟨k, hk, rfl⟩ := hu
      have h0 : 0 < xs.length := by
        rcases Nat.eq_zero_or_pos xs.length with h0 | h0
        · rw [h0, Nat.zero_mul] at hk; omega
        · exact h0
      exact h1 k (by rw [hesz h0]; exact hk)
    · have hk : k < xs.length * i.size := by
        have := (List.getElem?_eq_some_iff.1 hu).1
        omega
      rw [hog k hk] at hu
      cases hu
      exact hh k p hp
  by_cases hg : cap < xs.length + m
  · -- a new row
    have hold : (Builtin.firstCells i.size xs.length (.slice A xs.length cap)).run P w.drew = .ok olds.toArray w.drew := by
      rcases Nat.eq_zero_or_pos xs.length with h0 | h0
      · have : olds = [] := List.eq_nil_of_length_eq_zero (by rw [hol, h0, Nat.zero_mul])
        subst this
        rw [h0]
        cases A with
        | none => simp [Builtin.firstCells]
        | some ad => simp [Builtin.firstCells, loadCells, loadCellsFrom]
      · obtain ⟨ad, rfl, hsp, hf, hc⟩ := ha h0
        refine run_firstCells_some w.drew i.size xs.length ad xs.length cap olds hol fun j u hj => ?_
        have hjl : j < xs.length * i.size := by
          have := (List.getElem?_eq_some_iff.1 hj).1
          omega
        rw [hog j hjl] at hj
        cases hj
        rw [add_off hsp]
        exact hc j (by rw [hesz h0]; exact hjl)
    have hrun := app_grow (ty := ty) ht hi hz hsrc hold hg h63 (by rw [hm]; exact hb)
    obtain ⟨C, hC⟩ : ∃ C, C = grownCap w (xs.length + m) cap e := ⟨_, rfl⟩
    have hCge : xs.length + m ≤ C := by rw [hC]; exact grownCap_ge _ _ _ _
    rw [← hC] at hrun
    obtain ⟨row, hrow⟩ : ∃ row, row = olds ++ news ++ (Builtin.zeroCells z.cells (C - (xs.length + m))).toList := ⟨_, rfl⟩
    rw [← hrow] at hrun
    have hrl : row.length = C * i.size := by
      rw [hrow]
      simp only [List.length_append, Array.length_toList, zeroCells_size, hol, hnl, hzs]
      rw [← hm, ← Nat.add_mul, ← Nat.add_mul]
      congr 1
      omega
    refine ⟨_, _, upd fr w.heap.size (some ((xs.length + m) * i.size)), hrun, ?_⟩
    have hfx : Fresh w fr (w.drew.alloc (.cells row.toArray e)) (upd fr w.heap.size (some ((xs.length + m) * i.size))) := by
      refine ⟨rfl, rfl, rfl, by simp, fun b hb => Below.heap_alloc w.drew _ _ hb, fun b hb => upd_ne _ _ (by omega), fun b f hf => ?_⟩
      by_cases e : b = w.heap.size
      · simp [e]
      · rw [upd_ne _ _ e] at hf
        have := h.frb b f hf
        simp
        omega
    have hS := h.fresh hfx
    have hln : (xs ++ ys).length = xs.length + m := by rw [List.length_append, hm]
    have hcellN : ∀ k, (w.drew.alloc (.cells row.toArray e)).cell? ⟨w.heap.size, k, none⟩ = row[k]? := by
      intro k
      have := cell_alloc_new w.drew row.toArray e k
      rw [show w.drew.heap.size = w.heap.size from rfl] at this
      rw [this]
      simp
    have hrowR : CRep w fr (olds ++ news) (flat (xs ++ ys)) := by rw [flat_append]; exact hoR.append hnews
    have hrowk : ∀ k, k < (xs.length + m) * i.size → row[k]? = (olds ++ news)[k]? := by
      intro k hk
      rw [hrow, List.getElem?_append_left]
      rw [List.length_append, hol, hnl, ← Nat.add_mul, ← hm]
      exact hk
    have hlon : (olds ++ news).length = (xs.length + m) * i.size := by rw [List.length_append, hol, hnl, ← Nat.add_mul, ← hm]
    have hd : DRep (w.drew.alloc (.cells row.toArray e)) (upd fr w.heap.size (some ((xs.length + m) * i.size))) (.slice (some ⟨w.heap.size, 0, none⟩) (xs.length + m) C) (.slice (xs ++ ys)) := by
      rw [← hln]
      refine .slice _ C i.size (fun k => (olds ++ news).getD k undef) _ (by rw [hln]; exact hCge) hall (fun _ => ⟨_, rfl, rfl, fun f hf k hk => ?_, fun k hk => ?_⟩) (fun k hk => ?_) (fun k p hp => ?_)
      all_goals rw [hln] at *
      · rw [upd_same] at hf
        cases hf
        simpa using hk
      · rw [Nat.zero_add, hcellN k, hrowk k hk]
        simp only [List.getD_eq_getElem?_getD]
        rw [List.getElem?_eq_getElem (by rw [hlon]; exact hk)]
        rfl
      · refine hrowR.2.1 _ ?_
        rw [List.getD_eq_getElem?_getD, List.getElem?_eq_getElem (by rw [hlon]; exact hk)]
        exact List.getElem_mem _
      · have hk : k < (olds ++ news).length := by
          rw [hrowR.1]
          exact (List.getElem?_eq_some_iff.1 hp).1
        have e2 : (olds ++ news).getD k undef = (olds ++ news)[k] := by
          rw [List.getD_eq_getElem?_getD, List.getElem?_eq_getElem hk]
          rfl
        show DRep _ _ ((olds ++ news).getD k undef) p
        rw [e2]
        exact (hrowR.2.2 k _ p (List.getElem?_eq_getElem hk) hp).mono hfx.dext
    refine hS.putv ⟨dst, .d (.slice (xs ++ ys)), fun j => j == 0, slotOf s, []⟩ rfl _ hdst (.d _ _ hd) (fun j hj => ⟨xs ++ ys, rfl, ?_⟩) (fun j hj b hbr l hl hcl => ?_) (fun j j' hj hj' hne => ?_)
    · by_cases hCe : xs.length + m = C
      · exact .inl ⟨some ⟨w.heap.size, 0, none⟩, C, by rw [hCe]; rfl⟩
      · refine .inr ⟨w.heap.size, C, row.toArray, e, i.size, by rw [hln]; rfl, by omega, by omega, hpos, heap_alloc_new' w.drew _, hall, by simpa using hrl, by rw [upd_same, hln], .inl h.size⟩
    · have hbw : b = w.heap.size := by
        simp only [vpart, rowOf] at hbr
        split at hbr
        · cases hbr; rfl
        · cases hbr
      subst hbw
      intro hcon
      have hvl : vat a (w.drew.alloc (.cells row.toArray e)) β l = vat a w β l := by
        cases l with
        | t i j => rfl
        | b n k =>
          have hlv := h.live n k hl
          obtain ⟨cs, E, hc, _⟩ := (h.boxes n hlv.1).ex ((h.boxes n hlv.1).at hlv.2)
          simp only [vat]
          rw [hfx.cell (Array.getElem?_eq_some_iff.1 hc).1]
      rw [hvl] at hcon
      have := (h.own l hl).row hcon
      omega
    · simp at hj hj'
      omega
  · -- there is room
    have hroom : xs.length + m ≤ cap := by omega
    by_cases hm0 : ys = []
    · -- nothing is appended
      subst hm0
      have hm0 : m = 0 := hm
      subst hm0
      have hn0 : news = [] := List.eq_nil_of_length_eq_zero (by rw [hnl]; simp)
      subst hn0
      have hrun := app_room (ty := ty) ht hi hz hsrc hroom (A := A) (w' := w) (fun ad _ => rfl) (fun _ => rfl)
      refine ⟨_, w, fr, hrun, ?_⟩
      have hd : DRep w fr (.slice A xs.length cap) (.slice xs) := by rw [← ev]; exact inv_d hv
      have hat : S.at (.t s 0) = .d (.slice xs) := by simp only [PS.at, hs, PV.part]
      rw [hat] at ho
      refine h.putv ⟨dst, .d (.slice (xs ++ [])), fun j => j == 0, slotOf s, []⟩ rfl _ hdst (.d _ _ (by simpa using hd)) (fun j hj => by simpa [vpart, PV.part] using ho) (fun j hj b hbr l hl hcl => ?_) (fun j j' hj hj' hne => ?_)
      · refine h.oinj (.t s 0) l hown hl (fun e => ?_) b (by rw [hvs]; simpa [vpart] using hbr)
        subst e
        simp [slotOf] at hcl
      · simp at hj hj'
        omega
    · -- the row is one's own, and written behind its end
      have hmp : 0 < m := by rw [hm]; exact List.length_pos_iff.2 hm0
      have hat : S.at (.t s 0) = .d (.slice xs) := by simp only [PS.at, hs, PV.part]
      rw [hat] at ho
      obtain ⟨xs', hxs', hoo⟩ := ho
      cases hxs'
      rcases hoo with ⟨A', n', e'⟩ | ⟨b, c, cur, E, sz', e', hlt, hx0, hs0, hhb, hsz', hcs, hfb, hmine⟩
      · cases e'
        omega
      · cases e'
        have es : sz' = i.size := by
          obtain ⟨q, hq⟩ := List.exists_mem_of_length_pos hx0
          rw [← hsz' q hq, hzx q hq]
        subst es
        have hcl : cur.toList.length = cap * i.size := by rw [← hcs]; simp
        have hfit : xs.length * i.size + news.length ≤ cur.toList.length := by
          rw [hnl, ← Nat.add_mul, hcl, ← hm]
          exact Nat.mul_le_mul_right _ hroom
        have hcellb : ∀ k, w.cell? ⟨b, k, none⟩ = cur[k]? := by
          intro k
          simp only [World.cell?, hhb]
          rfl
        have hst : (storeCells ((⟨b, 0, none⟩ : Addr).add (xs.length * i.size)) news).run P w = .ok () (w.setCells b (xs.length * i.size) news) := by
          rw [add_off rfl, Nat.zero_add]
          refine run_storeCells_cells (P := P) b (xs.length * i.size) news 0 w (fun j hj => ?_) (fun j hj => ?_) (fun u hu => hnews.2.1 u hu)
          · rw [hcellb]
            have : xs.length * i.size + (0 + j) < cur.size := by
              rw [hcl, ← hcs] at hfit
              omega
            simp
            omega
          · simp [World.frozen?, hhb]
        have hrun := app_room (ty := ty) ht hi hz hsrc hroom (A := some ⟨b, 0, none⟩) (w' := w.setCells b (xs.length * i.size) news) (fun ad had => by cases had; exact hst) (by simp)
        refine ⟨_, _, upd fr b (some ((xs.length + m) * i.size)), hrun, ?_⟩
        have hpos2 : 0 < xs.length * i.size := Nat.mul_pos hx0 hpos
        have hff : xs.length * i.size ≤ (xs.length + m) * i.size := Nat.mul_le_mul_right _ (by omega)
        have hrowS : rowOf (vat a w β (.t s 0)) = some b := by rw [hvs]; simp [rowOf, hlt]
        have hS := (h.clear (slotOf s)).rowWrite hhb hfb hpos2 hmine news ((xs.length + m) * i.size) hff (fun l hl hcon => by
          simp [PS.clear] at hl
          refine h.oinj (.t s 0) l hown hl.1 (fun e => ?_) b hrowS hcon
          subst e
          simp [slotOf] at hl)
        have hbs : b < w.heap.size := (Array.getElem?_eq_some_iff.1 hhb).1
        have hat' : (w.setCells b (xs.length * i.size) news).heap[b]? = some (.cells (cur.toList.take (xs.length * i.size) ++ news ++ cur.toList.drop (xs.length * i.size + news.length)).toArray E (0, 0)) :=
          setCells_heap_at b news (xs.length * i.size) w cur.toList E (0, 0) (by rw [Array.toArray_toList]; exact hhb) hfit
        obtain ⟨row, hrow⟩ : ∃ row, row = cur.toList.take (xs.length * i.size) ++ news ++ cur.toList.drop (xs.length * i.size + news.length) := ⟨_, rfl⟩
        rw [← hrow] at hat'
        have hcellN : ∀ k, (w.setCells b (xs.length * i.size) news).cell? ⟨b, k, none⟩ = row[k]? := by
          intro k
          simp only [World.cell?, hat']
          simp
        have htake : cur.toList.take (xs.length * i.size) = olds := by
          apply List.ext_getElem?
          intro k
          rw [List.getElem?_take]
          by_cases hk : k < xs.length * i.size
          · rw [if_pos hk, hog k hk]
            obtain ⟨ad, had, hsp, hf, hc⟩ := ha hx0
            cases had
            have := hc k (by rw [hesz hx0]; exact hk)
            rw [Nat.zero_add, hcellb] at this
            simpa using this
          · rw [if_neg hk, List.getElem?_eq_none (by omega)]
        have hln : (xs ++ ys).length = xs.length + m := by rw [List.length_append, hm]
        have hrowR : CRep w fr (olds ++ news) (flat (xs ++ ys)) := by rw [flat_append]; exact hoR.append hnews
        have hlon : (olds ++ news).length = (xs.length + m) * i.size := by rw [List.length_append, hol, hnl, ← Nat.add_mul, ← hm]
        have hrowk : ∀ k, k < (xs.length + m) * i.size → row[k]? = (olds ++ news)[k]? := by
          intro k hk
          rw [hrow, htake, List.getElem?_append_left]
          rw [hlon]
          exact hk
        -- what was there lies there
        have hx : DExt w fr (w.setCells b (xs.length * i.size) news) (upd fr b (some ((xs.length + m) * i.size))) := by
          obtain ⟨_, _, _, r4⟩ := setCells_rest b news (xs.length * i.size) w
          refine ⟨fun b' o u hcc hfr => ?_, fun b' f2 _ h2 => ?_, by rw [r4]; exact Nat.le_refl _⟩
          · by_cases e : b' = b
            · subst e
              rw [World.cell?_setCells_out b' news (xs.length * i.size) w ⟨b', o, none⟩ fun _ _ => .inl (hfr _ hfb)]
              exact hcc
            · rw [World.cell?_of_block (w := w) (setCells_heap_ne b news _ w b' e)]
              exact hcc
          · by_cases e : b' = b
            · subst e
              rw [upd_same] at h2
              cases h2
              exact ⟨_, hfb, hff⟩
            · rw [upd_ne _ _ e] at h2
              exact ⟨f2, h2, Nat.le_refl _⟩
        have hd : DRep (w.setCells b (xs.length * i.size) news) (upd fr b (some ((xs.length + m) * i.size))) (.slice (some ⟨b, 0, none⟩) (xs.length + m) cap) (.slice (xs ++ ys)) := by
          rw [← hln]
          refine .slice _ cap i.size (fun k => (olds ++ news).getD k undef) _ (by rw [hln]; exact hroom) hall (fun _ => ⟨_, rfl, rfl, fun f hf k hk => ?_, fun k hk => ?_⟩) (fun k hk => ?_) (fun k p hp => ?_)
          all_goals rw [hln] at *
          · rw [upd_same] at hf
            cases hf
            simpa using hk
          · rw [Nat.zero_add, hcellN k, hrowk k hk]
            simp only [List.getD_eq_getElem?_getD]
            rw [List.getElem?_eq_getElem (by rw [hlon]; exact hk)]
            rfl
          · refine hrowR.2.1 _ ?_
            rw [List.getD_eq_getElem?_getD, List.getElem?_eq_getElem (by rw [hlon]; exact hk)]
            exact List.getElem_mem _
          · have hk : k < (olds ++ news).length := by
              rw [hrowR.1]
              exact (List.getElem?_eq_some_iff.1 hp).1
            have e2 : (olds ++ news).getD k undef = (olds ++ news)[k] := by
              rw [List.getD_eq_getElem?_getD, List.getElem?_eq_getElem hk]
              rfl
            show DRep _ _ ((olds ++ news).getD k undef) p
            rw [e2]
            exact (hrowR.2.2 k _ p (List.getElem?_eq_getElem hk) hp).mono hx
        have hfin := hS.putv ⟨dst, .d (.slice (xs ++ ys)), fun j => j == 0, slotOf s, []⟩ rfl (.slice (some ⟨b, 0, none⟩) (xs.length + m) cap) hdst (.d _ _ hd) (fun j hj => ⟨xs ++ ys, rfl, ?_⟩) (fun j hj b' hbr l hl hcl' => ?_) (fun j j' hj hj' hne => ?_)
        · -- the flags are the same
          have hEq : ((⟨dst, .d (.slice (xs ++ ys)), fun j => j == 0, slotOf s, []⟩ : Eff).apply (S.clear (slotOf s))) = ((⟨dst, .d (.slice (xs ++ ys)), fun j => j == 0, slotOf s, []⟩ : Eff).apply S) := by
            simp only [Eff.apply, PS.clear]
            congr 1
            funext l
            cases l <;> simp [Bool.and_assoc]
          rw [hEq] at hfin
          exact hfin
        · by_cases hCe : xs.length + m = cap
          · exact .inl ⟨some ⟨b, 0, none⟩, cap, by rw [hCe]; rfl⟩
          · refine .inr ⟨b, cap, row.toArray, E, i.size, by rw [hln]; rfl, by omega, by omega, hpos, hat', hall, ?_, by rw [upd_same, hln], hmine⟩
            rw [hrow]
            simp only [List.size_toArray, List.length_append, List.length_take, List.length_drop]
            rw [hcl] at hfit ⊢
            omega
        · have hbb : b' = b := by
            simp only [vpart, rowOf] at hbr
            split at hbr
            · cases hbr; rfl
            · cases hbr
          subst hbb
          intro hcon
          simp [PS.clear] at hl
          have hvl : vat a (w.setCells b' (xs.length * i.size) news) β l = vat a w β l := by
            cases l with
            | t i j => rfl
            | b n k =>
              have hlv := h.live n k hl.1
              have hbn : (β n).b ≠ b' := by
                intro e
                have := (h.boxes n hlv.1).reg ((h.boxes n hlv.1).at hlv.2)
                rw [e, hfb] at this
                have := Option.some.inj this
                omega
              simp only [vat]
              rw [World.cell?_of_block (w := w) (setCells_heap_ne b' news _ w _ hbn)]
          rw [hvl] at hcon
          refine h.oinj (.t s 0) l hown hl.1 (fun e => ?_) b' hrowS hcon
          subst e
          simp [slotOf] at hl
        · simp at hj hj'
          omega
end

end BoEng
