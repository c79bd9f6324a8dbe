/- All operations but calls of functions. -/
import Derived.Test.YtoamihggbaaohaaEngL
namespace BoEng
set_option linter.unusedSimpArgs false
set_option linter.unusedVariables false
open Go Go.RowKit

section
variable {P : Program} {N : Nat} {tch : Env} {w0 : World} {fr0 : Nat → Option Nat} {S : PS} {a : Act} {w : World} {fr : Nat → Option Nat} {β : Nat → Blk}

/-- What an operation owes. -/
def Does (P : Program) (N : Nat) (tch : Env) (w0 : World) (fr0 : Nat → Option Nat) (S' : PS) (o : Oper) (a : Act) (w : World) : Prop :=
  ∃ w' fr' β', (∃ v, (execOp a.eval o).run P w = .ok (.value v) w' ∧ Sim N tch w0 fr0 S' (a.put o.dst v) w' fr' β') ∨
    ((execOp a.eval o).run P w = .ok .skip w' ∧ Sim N tch w0 fr0 S' (a.put o.dst undef) w' fr' β')

theorem does_mv (h : Sim N tch w0 fr0 S a w fr β) {o : Oper} {x : Operand} {tr : Bool} (hd : ∀ d, o.dst = some d → d < N) (ho : o.op = .move x ∨ o.op = .assign x) : Does P N tch w0 fr0 ((mvEff o S x tr).apply S) o a w := by
  refine ⟨w, fr, β, .inl ⟨a.eval x, ?_, ?_⟩⟩
  · rcases ho with ho | ho <;> simp [execOp, ho]
  · unfold mvEff
    cases x with
    | tmp s =>
      cases tr
      · exact h.put0 o.dst _ _ hd (h.vals s)
      · exact h.putmv o.dst s hd
    | const v =>
      refine h.putv ⟨o.dst, ofConst v, fun _ => isNilV v, fun _ => false, []⟩ rfl v hd (ofConst_rep v) (fun j hj => ?_) (fun j hj b hb => ?_) (fun j j' hj _ _ b hb => ?_)
      · rw [isNilV_eq hj]; exact ownOk_nil
      · rw [isNilV_eq hj] at hb; simp [vpart, rowOf] at hb
      · rw [isNilV_eq hj] at hb; simp [vpart, rowOf] at hb
    | global g => exact h.put0 o.dst _ _ hd (h.ev (.global g))
    | func f => exact h.put0 o.dst _ _ hd (h.ev (.func f))

theorem does_extract (h : Sim N tch w0 fr0 S a w fr β) {o : Oper} {s k : Nat} {ps : List PV} {p : PV} (hd : ∀ d, o.dst = some d → d < N) (ho : o.op = .extract (.tmp s) k) (hs : S.t s = .tup ps) (hp : ps[k]? = some p) (hpt : ∀ q, p ≠ .tup q) :
    Does P N tch w0 fr0 ((⟨o.dst, p, fun j => j == 0 && S.own (.t s k), fun l => l == .t s k, []⟩ : Eff).apply S) o a w := by
  have hv := h.vals s
  rw [hs] at hv
  generalize hu : a.tmps.getD s undef = u at hv
  cases hv with
  | tup vs ps hl hh =>
    have hk : k < vs.length := by
      rw [hl]
      exact (List.getElem?_eq_some_iff.1 hp).1
    refine ⟨w, fr, β, .inl ⟨vs[k], ?_, ?_⟩⟩
    · simp [execOp, ho, Act.eval, hu, Instr.extract, hk]
    · exact h.putpart o.dst s k vs ps p _ hs hp hu (List.getElem?_eq_getElem hk) hpt hd

/-- A load: the value; of one cell it is that cell's. -/
theorem load_sound (h : Sim N tch w0 fr0 S a w fr β) {t : TypeId} {x : Operand} {r : PV} (hl : loadPV P S t x = some r) :
    ∃ v, (Instr.loadAt t (a.eval x)).run P w = .ok v w ∧ PRep w fr β S.gen v r ∧ (∀ n g off, S.ev x = .ptr n g off → aggT P t = some false → v = vat a w β (.b n off) ∧ r = S.at (.b n off) ∧ 0 < S.gen n) := by
  have hx := h.ev x
  unfold loadPV at hl
  split at hl
  · rename_i n g off hp
    rw [hp] at hx
    split at hl
    · rename_i hg
      obtain ⟨e, h0⟩ := inv_ptr hx hg.1
      have hgn : 0 < S.gen n := by rw [← hg.1]; exact h0
      have hbn := h.boxes n hgn
      have hbl := hbn.len
      obtain ⟨cs, E, hc, hcs, hcp⟩ := hbn.ex (by omega)
      have hcell : ∀ k, w.cell? ⟨(β n).b, k, none⟩ = cs[k]? := fun k => by simp only [World.cell?, hc]; rfl
      split at hl
      · rename_i ha
        cases hl
        refine ⟨.agg ((cs.toList.drop off).take (szT P t)).toArray, ?_, mkA_rep ?_ (fun v hv => ?_) (fun k v p hv hp => ?_), fun n' g' o' _ hf => by rw [ha] at hf; cases hf⟩
        · rw [e]
          have hz : 0 < szT P t := hg.2.1
          have hld := run_loadCells_list (P := P) w ⟨(β n).b, off, none⟩ ((cs.toList.drop off).take (szT P t)) (fun j v hj => by
              rw [add_off rfl]
              simp only
              rw [hcell]
              rw [List.getElem?_take] at hj
              split at hj
              · rw [List.getElem?_drop] at hj
                simpa using hj
              · cases hj)
          have hlen : ((cs.toList.drop off).take (szT P t)).length = szT P t := by
              simp
              omega
          rw [hlen] at hld
          simp [Instr.loadAt, Instr.sureAddr, loadVar, run_isAgg ha, run_size hz, hld]
        · simp
          omega
        · obtain ⟨k, hk⟩ := List.getElem?_of_mem hv
          rw [List.getElem?_take] at hk
          split at hk
          · rename_i hkl
            rw [List.getElem?_drop] at hk
            have hkb : off + k < (S.box n).length := by omega
            exact (hcp (off + k) v _ (by simpa using hk) (List.getElem?_eq_getElem hkb)).2
          · cases hk
        · rw [List.getElem?_take] at hv hp
          split at hv
          · rename_i hk
            rw [if_pos hk, List.getElem?_drop] at hp
            rw [List.getElem?_drop] at hv
            exact (hcp _ v _ (by simpa using hv) hp).1
          · cases hv
      · rename_i ha
        split at hl
        · rename_i hz
          have hlt : off < (S.box n).length := (List.getElem?_eq_some_iff.1 hl).1
          have hlt' : off < cs.size := by omega
          refine ⟨cs[off], ?_, (hcp off _ _ (by simp [hlt']) hl).1, fun n' g' o' hp' _ => ?_⟩
          · rw [e]
            have hcc : w.cell? ⟨(β n).b, off, none⟩ = some cs[off] := by rw [hcell]; simp [hlt']
            simp [Instr.loadAt, Instr.sureAddr, loadVar, run_isAgg ha, hcc]
          · rw [hp] at hp'
            cases hp'
            refine ⟨?_, ?_, hgn⟩
            · simp only [vat]
              rw [hcell]
              simp [hlt']
            · simp only [PS.at]
              rw [List.getD_eq_getElem?_getD, hl]
              rfl
        · cases hl
      · cases hl
    · cases hl
  · rename_i cs hp
    rw [hp] at hx
    simp only [Option.map_eq_some_iff] at hl
    obtain ⟨d, hd, rfl⟩ := hl
    generalize hu : a.eval x = u at hx
    cases hx with
    | cptr ad us cs hs hf hc h1 hh =>
      have hcr : CRep w fr ((List.range cs.length).map us) cs := by
        refine ⟨by simp, fun u hu => ?_, fun k u p hu hp => ?_⟩
        · simp only [List.mem_map, List.mem_range] at hu
          obtain ⟨k, hk, rfl⟩ := hu
          exact h1 k hk
        · have hk : k < cs.length := (List.getElem?_eq_some_iff.1 hp).1
          simp [hk] at hu
          subst hu
          exact hh k p hp
      obtain ⟨z, hz, hzr⟩ := partD_sound (P := P) (w := w) hcr.1 hcr.2.1 hcr.2.2 hd
      refine ⟨z, ?_, .d _ _ hzr, fun n g off hp' => by rw [hp] at hp'; cases hp'⟩
      have hld : ∀ m, m ≤ cs.length → (loadCells ad m).run P w = .ok (((List.range cs.length).map us).take m).toArray w := by
        intro m hm
        have := run_loadCells_list (P := P) w ad (((List.range cs.length).map us).take m) (fun j v hj => by
          rw [add_off hs]
          rw [List.getElem?_take] at hj
          split at hj
          · rename_i hjm
            have : j < cs.length := by omega
            simp [this] at hj
            subst hj
            exact hc j this
          · cases hj)
        have hl : (((List.range cs.length).map us).take m).length = m := by simp; omega
        rw [hl] at this
        exact this
      unfold partD at hd
      split at hd
      · rename_i ha
        split at hd
        · rename_i hle
          rw [Nat.zero_add] at hle
          have hzz : (part t ((List.range cs.length).map us).toArray 0).run P w = .ok (.agg (((List.range cs.length).map us).take (szT P t)).toArray) w := by
            simp only [part, Sem.run_bind, run_isAgg ha, Result.andThen_ok, if_true, run_size hle.1, Sem.run_pure]
            congr 2
            simp [List.extract_eq_take_drop]
          rw [hzz] at hz
          cases hz
          simp only [Instr.loadAt, Instr.sureAddr, Sem.run_bind, Sem.run_pure, Result.andThen_ok, loadVar, run_isAgg ha, if_true, run_size hle.1, hld _ hle.2]
        · cases hd
      · rename_i ha
        have hlt : 0 < cs.length := (List.getElem?_eq_some_iff.1 hd).1
        have hzz : (part t ((List.range cs.length).map us).toArray 0).run P w = .ok (us 0) w := by
          simp [part, run_isAgg ha, hlt]
        rw [hzz] at hz
        cases hz
        have hcc : w.cell? ad = some (us 0) := by
          have := hc 0 hlt
          rw [Nat.add_zero] at this
          obtain ⟨b, o, sp⟩ := ad
          simp only at hs
          subst hs
          exact this
        simp [Instr.loadAt, Instr.sureAddr, loadVar, run_isAgg ha, hcc]
      · cases hd
  · cases hl

theorem freshNew (h : Sim N tch w0 fr0 S a w fr β) (o : Obj) : Fresh w fr (w.alloc o) (upd fr w.heap.size (some 0)) := by
  refine ⟨rfl, rfl, rfl, by simp, fun b hb => Below.heap_alloc _ _ _ hb, fun b hb => upd_ne _ _ (by omega), fun b f hf => ?_⟩
  by_cases e : b = w.heap.size
  · simp [e]
  · rw [upd_ne _ _ e] at hf
    have := h.frb b f hf
    simp
    omega

theorem newVar_run {P : Program} {w : World} (e : TypeId) (v : Value) : (newVar e v).run P w = .ok ⟨w.heap.size, 0, none⟩ (w.alloc (.cells v.cells e)) := by
  simp [newVar, newRow]

theorem does_alloc (h : Sim N tch w0 fr0 S a w fr β) {o : Oper} {e d : Nat} {z : Value} (hd : d < N) (hdst : o.dst = some d) (ho : o.op = .alloc e) (hz : zeroT P e = some z) (hall : z.cells.toList.all (·.oneCell') = true) :
    Does P N tch w0 fr0 ((⟨o.dst, .ptr (S.fo + d) (S.gen (S.fo + d) + 1) 0, fun _ => false, fun _ => false, [⟨S.fo + d, S.gen (S.fo + d) + 1, z.cells.toList.map fun c => .d (ofConstD c), fun k => isNilV (z.cells.getD k undef)⟩]⟩ : Eff).apply S) o a w := by
  obtain ⟨i, hi, hiz⟩ := info_of_zero hz
  rw [hdst]
  refine ⟨w.alloc (.cells z.cells e), upd fr w.heap.size (some 0), upd β (S.fo + d) ⟨w.heap.size, z.cells.size⟩, .inl ⟨.pointer (some ⟨w.heap.size, 0, none⟩), ?_, ?_⟩⟩
  · simp [execOp, ho, Instr.alloc, zeroValue, typeInfo, hi, hiz, newVar_run]
  · rw [hdst]
    refine h.newBox hd (freshNew h _) (Nat.le_refl _) z.cells e (heap_alloc_new' _ _) _ _ _ _ _ (by simp) (fun k u p hu hp => ?_) (fun k hk => .inl ?_) (.inl ⟨rfl, rfl⟩)
    · rw [List.getElem?_map] at hp
      have hu' : z.cells.toList[k]? = some u := by simpa using hu
      rw [hu'] at hp
      cases hp
      have h1 : one u := List.all_eq_true.1 hall u (List.mem_of_getElem? hu')
      exact ⟨.d _ _ (ofConstD_rep h1), h1⟩
    · have hn := isNilV_eq hk
      rcases Nat.lt_or_ge k z.cells.size with hlt | hge
      · have hc : z.cells[k]? = some (.slice none 0 0) := by
          rw [Array.getD_eq_getD_getElem?, Array.getElem?_eq_getElem hlt] at hn
          rw [Array.getElem?_eq_getElem hlt]
          exact congrArg some hn
        refine ⟨hc, ?_⟩
        have hc' : z.cells.toList[k]? = some (.slice none 0 0) := by simpa using hc
        rw [List.getElem?_map, hc']
        rfl
      · rw [Array.getD_eq_getD_getElem?, Array.getElem?_eq_none hge] at hn
        cases hn

theorem does_box (h : Sim N tch w0 fr0 S a w fr β) {o : Oper} {e d : Nat} {x : Operand} {cs : List PV} (hd : d < N) (hdst : o.dst = some d) (ho : o.op = .box e x) (hc : pcells (S.ev x) = some cs) :
    Does P N tch w0 fr0 ((⟨o.dst, .ptr (S.fo + d) (S.gen (S.fo + d) + 1) 0, fun _ => false, fun _ => false, [⟨S.fo + d, S.gen (S.fo + d) + 1, cs, fun _ => false⟩]⟩ : Eff).apply S) o a w := by
  obtain ⟨e1, e2⟩ := pcells_rep (h.ev x) hc
  rw [hdst]
  refine ⟨w.alloc (.cells (a.eval x).cells e), upd fr w.heap.size (some 0), upd β (S.fo + d) ⟨w.heap.size, (a.eval x).cells.size⟩, .inl ⟨.pointer (some ⟨w.heap.size, 0, none⟩), ?_, ?_⟩⟩
  · simp [execOp, ho, Instr.box, newVar_run]
  · rw [hdst]
    exact h.newBox hd (freshNew h _) (Nat.le_refl _) (a.eval x).cells e (heap_alloc_new' _ _) cs _ _ _ _ (by omega) e2 (by simp) (.inl ⟨rfl, rfl⟩)

/-- A box that nobody will write: what is caught to be read. -/
theorem does_boxF (h : Sim N tch w0 fr0 S a w fr β) {o : Oper} {e d : Nat} {x : Operand} {cs : List PV} {ds : List DV} (hd : d < N) (hdst : o.dst = some d) (ho : o.op = .box e x) (hc : pcells (S.ev x) = some cs) (hds : toD cs = some ds) :
    Does P N tch w0 fr0 ((⟨o.dst, .cptr ds, fun _ => false, fun _ => false, []⟩ : Eff).apply S) o a w := by
  obtain ⟨e1, e2⟩ := pcells_rep (h.ev x) hc
  have e3 := toD_spec _ _ hds
  have hfx : Fresh w fr (w.alloc (.cells (a.eval x).cells e)) fr := Fresh.alloc h.frb _
  have hS := h.fresh hfx
  refine ⟨w.alloc (.cells (a.eval x).cells e), fr, β, .inl ⟨.pointer (some ⟨w.heap.size, 0, none⟩), ?_, ?_⟩⟩
  · simp [execOp, ho, Instr.box, newVar_run]
  · have hsz : (a.eval x).cells.size = ds.length := by rw [e1, e3]; simp
    refine hS.put0 o.dst _ _ (fun d' e' => by rw [hdst] at e'; cases e'; exact hd) (.cptr _ (fun k => (a.eval x).cells.getD k undef) ds rfl (fun f hf => ?_) (fun k hk => ?_) (fun k hk => ?_) (fun k p hp => ?_))
    · have := h.frb _ f hf
      simp at this
    · rw [Nat.zero_add, cell_alloc_new]
      have : k < (a.eval x).cells.size := by omega
      simp [this, Array.getD_eq_getD_getElem?]
    · have hk' : k < (a.eval x).cells.size := by omega
      have := (e2 k (a.eval x).cells[k] (.d ds[k]) (by simp [hk']) (by rw [e3]; simp [hk])).2
      simpa [Array.getD_eq_getD_getElem?, hk'] using this
    · have hk := (List.getElem?_eq_some_iff.1 hp).1
      have hk' : k < (a.eval x).cells.size := by omega
      have := (e2 k (a.eval x).cells[k] (.d p) (by simp [hk']) (by rw [e3]; simp [hp])).1
      have := (inv_d this).mono hfx.dext
      simpa [Array.getD_eq_getD_getElem?, hk'] using this

theorem does_makeSlice (h : Sim N tch w0 fr0 S a w fr β) {o : Oper} {t e d : Nat} {l c : Operand} {k k' : IntKind} {n : Int} {z : Value} {by_ : Nat} (hd : d < N) (hdst : o.dst = some d) (ho : o.op = .makeSlice t l c)
    (ht : elT P t = some e) (hl : S.ev l = .d (.int k n)) (hc : S.ev c = .d (.int k' n)) (hz : zeroT P e = some z) (hb : bytT P e = some by_) (h0 : 0 ≤ n) (hn : n ≤ 9223372036854775807) (hnb : n * by_ ≤ 281474976710656) (hs : szT P e = 1) (h1 : z.oneCell' = true) :
    Does P N tch w0 fr0 ((⟨o.dst, .bsl (S.fo + d) (S.gen (S.fo + d) + 1) n.toNat 1 false, fun _ => false, fun _ => false, [⟨S.fo + d, S.gen (S.fo + d) + 1, List.replicate n.toNat (.d (ofConstD z)), fun _ => false⟩]⟩ : Eff).apply S) o a w := by
  obtain ⟨i, hi, hiz⟩ := info_of_zero hz
  obtain ⟨i', hi', hib⟩ := info_of_byt hb
  rw [hi] at hi'
  cases hi'
  have hsz : i.size = 1 := by
    obtain ⟨i', hi', his⟩ := info_of_size (P := P) (t := e) (by omega)
    rw [hi] at hi'
    cases hi'
    omega
  have e1 := inv_int (by have := h.ev l; rwa [hl] at this)
  have e2 := inv_int (by have := h.ev c; rwa [hc] at this)
  obtain ⟨m, rfl⟩ := Int.eq_ofNat_of_zero_le h0
  have hzc : z.cells = #[z] := by cases z <;> first | rfl | simp [Value.oneCell'] at h1
  have hrun := run_make (P := P) w t e i z (under_of_el ht) hi hiz k k' (m : Int) (m : Int) h0 (Int.le_refl _) (by rw [hib, Int.mul_comm]; exact hnb) hn
  have hrow : madeCells z.cells ((m : Int).toNat * i.size) = Array.replicate m z := by
    rw [hzc, hsz]
    apply Array.ext_getElem?
    intro q
    simp [madeCells, Nat.mod_one]
    by_cases hq : q < m <;> simp [hq, Array.getElem?_replicate]
  rw [hrow] at hrun
  rw [hdst]
  refine ⟨w.alloc (.cells (Array.replicate m z) e), upd fr w.heap.size (some 0), upd β (S.fo + d) ⟨w.heap.size, (Array.replicate m z).size⟩, .inl ⟨.slice (some ⟨w.heap.size, 0, none⟩) m m, ?_, ?_⟩⟩
  · simp [execOp, ho, e1, e2, hrun]
  · rw [hdst]
    refine h.newBox hd (freshNew h _) (Nat.le_refl _) (Array.replicate m z) e (heap_alloc_new' _ _) _ _ _ _ _ (by simp) (fun q u p hu hp => ?_) (by simp) (.inr ⟨m, 1, m, false, by omega, Nat.le_refl _, by simp, by simp, rfl⟩)
    have hq : q < m := by
      have := (Array.getElem?_eq_some_iff.1 hu).1
      simpa using this
    rw [Array.getElem?_replicate, if_pos hq] at hu
    simp [hq] at hp
    cases hu
    subst hp
    exact ⟨.d _ _ (ofConstD_rep h1), h1⟩

theorem does_makeSliceF (h : Sim N tch w0 fr0 S a w fr β) {o : Oper} {t e d : Nat} {l c : Operand} {k k' : IntKind} {n : Int} {z : Value} {by_ : Nat} (hd : d < N) (hdst : o.dst = some d) (ho : o.op = .makeSlice t l c)
    (ht : elT P t = some e) (hl : S.ev l = .d (.int k n)) (hc : S.ev c = .d (.int k' n)) (hz : zeroT P e = some z) (hb : bytT P e = some by_) (h0 : 0 ≤ n) (hn : n ≤ 9223372036854775807) (hnb : n * by_ ≤ 281474976710656) (hs : szT P e = 1) (h1 : z.oneCell' = true) :
    Does P N tch w0 fr0 ((⟨o.dst, .d (.slice (List.replicate n.toNat (ofConstD z))), fun _ => true, fun _ => false, []⟩ : Eff).apply S) o a w := by
  obtain ⟨i, hi, hiz⟩ := info_of_zero hz
  obtain ⟨i', hi', hib⟩ := info_of_byt hb
  rw [hi] at hi'
  cases hi'
  have hsz : i.size = 1 := by
    obtain ⟨i', hi', his⟩ := info_of_size (P := P) (t := e) (by omega)
    rw [hi] at hi'
    cases hi'
    omega
  have e1 := inv_int (by have := h.ev l; rwa [hl] at this)
  have e2 := inv_int (by have := h.ev c; rwa [hc] at this)
  obtain ⟨m, rfl⟩ := Int.eq_ofNat_of_zero_le h0
  have hzc : z.cells = #[z] := by cases z <;> first | rfl | simp [Value.oneCell'] at h1
  have hrun := run_make (P := P) w t e i z (under_of_el ht) hi hiz k k' (m : Int) (m : Int) h0 (Int.le_refl _) (by rw [hib, Int.mul_comm]; exact hnb) hn
  have hrow : madeCells z.cells ((m : Int).toNat * i.size) = Array.replicate m z := by
    rw [hzc, hsz]
    apply Array.ext_getElem?
    intro q
    simp [madeCells, Nat.mod_one]
    by_cases hq : q < m <;> simp [hq, Array.getElem?_replicate]
  rw [hrow] at hrun
  have hfx : Fresh w fr (w.alloc (.cells (Array.replicate m z) e)) fr := Fresh.alloc h.frb _
  have hS := h.fresh hfx
  have hx1 : ∀ x ∈ List.replicate m (ofConstD z), (cells x).length = 1 := by
    intro x hx
    rw [List.eq_of_mem_replicate hx]
    have hr := ofConstD_rep (w := w) (fr := fr) h1
    cases hq : ofConstD z with
    | agg cc =>
      rw [hq] at hr
      obtain ⟨vs, e, _⟩ := agg_inv hr
      rw [e] at h1
      simp [Value.oneCell'] at h1
    | _ => rfl
  have hcell : ∀ q, q < m → (w.alloc (.cells (Array.replicate m z) e)).cell? ⟨w.heap.size, q, none⟩ = some z := by
    intro q hq
    rw [cell_alloc_new, Array.getElem?_replicate, if_pos hq]
  refine ⟨w.alloc (.cells (Array.replicate m z) e), fr, β, .inl ⟨.slice (some ⟨w.heap.size, 0, none⟩) m m, ?_, ?_⟩⟩
  · simp [execOp, ho, e1, e2, hrun]
  · refine hS.put1 o.dst _ m _ (fun d' e' => by rw [hdst] at e'; cases e'; exact hd) ?_
    have hlen : (List.replicate m (ofConstD z)).length = m := by simp
    have := DRep.slice (w := w.alloc (.cells (Array.replicate m z) e)) (fr := fr) (some ⟨w.heap.size, 0, none⟩) m 1 (fun _ => z) (List.replicate m (ofConstD z)) (by simp) hx1 (fun _ => ⟨_, rfl, rfl, fun f hf => by
        have := h.frb _ f hf
        simp at this, fun q hq => by
        rw [Nat.zero_add]
        exact hcell q (by simpa using hq)⟩) (fun _ _ => h1) (fun q p hp => by
        have hql := (List.getElem?_eq_some_iff.1 hp).1
        rw [flat_length hx1] at hql
        have hql' : q < m := by simpa using hql
        have hf := flat_at hx1 q (ofConstD z) (by simp [hql']) 0 (by omega)
        rw [Nat.mul_one, Nat.add_zero] at hf
        rw [hf] at hp
        have hd0 : p = ofConstD z := by
          cases hq : ofConstD z with
          | agg cc =>
            have hr := ofConstD_rep (w := w) (fr := fr) h1
            rw [hq] at hr
            obtain ⟨vs, e, _⟩ := agg_inv hr
            rw [e] at h1
            simp [Value.oneCell'] at h1
          | _ => rw [hq] at hp; simp [cells] at hp; exact hp.symm
        rw [hd0]
        exact ofConstD_rep h1)
    rw [hlen] at this
    exact this

end

end BoEng
