/- Stores, appends, and all operations but calls of functions in one theorem. -/
import Derived.Test.YtoamihggbaaohaaEngM
namespace BoEng
set_option linter.unusedSimpArgs false
set_option linter.unusedVariables false
open Go Go.RowKit

section
variable {P : Program} {N : Nat} {tch : Env} {w0 : World} {fr0 : Nat → Option Nat} {S : PS} {a : Act} {w : World} {fr : Nat → Option Nat} {β : Nat → Blk}

theorem store_run (h : Sim N tch w0 fr0 S a w fr β) {o : Oper} {t : TypeId} {x v : Operand} {n g off : Nat} {cs : List PV} (hdst : o.dst = none) (ho : o.op = .store t x v) (hx : S.ev x = .ptr n g off) (hc : pcells (S.ev v) = some cs)
    (hg : g = S.gen n) (hsz : cs.length = szT P t) (hpos : 0 < szT P t) (hle : off + cs.length ≤ (S.box n).length) :
    (execOp a.eval o).run P w = .ok .skip (w.setCells (β n).b off (a.eval v).cells.toList) ∧ (a.eval v).cells.toList.length = cs.length ∧ 0 < S.gen n ∧
      ∀ (k : Nat) (u : Value) (p : PV), (a.eval v).cells.toList[k]? = some u → cs[k]? = some p → PRep w fr β S.gen u p ∧ one u := by
  have hxv := h.ev x
  rw [hx] at hxv
  obtain ⟨e, h0⟩ := inv_ptr hxv hg
  obtain ⟨e1, e2⟩ := pcells_rep (h.ev v) hc
  have hgn : 0 < S.gen n := by rw [← hg]; exact h0
  have hbn := h.boxes n hgn
  have hbl := hbn.len
  obtain ⟨c, E, hh, hcs, hcp⟩ := hbn.ex (by omega)
  have hcell : ∀ k, w.cell? ⟨(β n).b, k, none⟩ = c[k]? := fun k => by simp only [World.cell?, hh]; rfl
  have hl : (a.eval v).cells.toList.length = cs.length := by rw [← e1]; simp
  have hp2 : ∀ (k : Nat) (u : Value) (p : PV), (a.eval v).cells.toList[k]? = some u → cs[k]? = some p → PRep w fr β S.gen u p ∧ one u := fun k u p hu hp => e2 k u p (by simpa using hu) hp
  have hst : (storeCells ⟨(β n).b, off, none⟩ (a.eval v).cells.toList).run P w = .ok () (w.setCells (β n).b off (a.eval v).cells.toList) := by
    refine run_storeCells_cells (P := P) (β n).b off _ 0 w (fun j hj => ?_) (fun j hj => ?_) (fun u hu => ?_)
    · rw [hcell]
      have : off + (0 + j) < c.size := by omega
      simp
      omega
    · simp [World.frozen?, hh]
    · obtain ⟨k, hk⟩ := List.getElem?_of_mem hu
      have hkl : k < cs.length := by
        have := (List.getElem?_eq_some_iff.1 hk).1
        omega
      exact (hp2 k u _ hk (List.getElem?_eq_getElem hkl)).2
  refine ⟨?_, hl, hgn, hp2⟩
  simp only [execOp, ho, e, Instr.storeAt, Instr.sureAddr, storeVar, Sem.run_bind, Sem.run_pure, Result.andThen_ok, run_size hpos]
  rw [if_neg (by rw [e1, hsz]; simp)]
  simp only [Sem.run_bind, hst, Result.andThen_ok, Sem.run_pure]

/-- Cells in elements. -/
theorem chunk_len {sz : Nat} {ag : Bool} : ∀ (k : Nat) (ds : List DV), (chunk sz ag k ds).length = k
  | 0, _ => rfl
  | k + 1, ds => by simp [chunk, chunk_len k]
theorem chunk_flat {sz : Nat} {ag : Bool} (hs : ag = false → sz = 1) : ∀ (k : Nat) (ds : List DV), ds.length = k * sz → (ag = false → ∀ d ∈ ds, ∀ cs, d ≠ .agg cs) → flat (chunk sz ag k ds) = ds ∧ ∀ x ∈ chunk sz ag k ds, (cells x).length = sz
  | 0, ds, hl, _ => by
    have : ds = [] := List.eq_nil_of_length_eq_zero (by omega)
    subst this
    exact ⟨rfl, by simp [chunk]⟩
  | k + 1, ds, hl, hn => by
    rw [Nat.succ_mul] at hl
    obtain ⟨h1, h2⟩ := chunk_flat hs k (ds.drop sz) (by rw [List.length_drop]; omega) (fun e d hd => hn e d (List.mem_of_mem_drop hd))
    cases ag with
    | true =>
      refine ⟨?_, fun x hx => ?_⟩
      · simp only [chunk, if_true, flat_cons, h1, cells]
        exact List.take_append_drop _ _
      · simp only [chunk, if_true, List.mem_cons] at hx
        rcases hx with rfl | hx
        · simp [cells]
          omega
        · exact h2 x hx
    | false =>
      have hsz := hs rfl
      subst hsz
      cases ds with
      | nil => simp at hl
      | cons d ds =>
        have hc : cells d = [d] := by
          have := hn rfl d List.mem_cons_self
          cases d <;> first | rfl | exact absurd rfl (this _)
        refine ⟨?_, fun x hx => ?_⟩
        · simp only [chunk, flat_cons, h1, List.headD_cons, Bool.false_eq_true, if_false, hc]
          rfl
        · simp only [chunk, List.headD_cons, Bool.false_eq_true, if_false, List.mem_cons] at hx
          rcases hx with rfl | hx
          · rw [hc]; rfl
          · exact h2 x hx

/-- The elements of a slice that is a box: its cells, in memory. -/
theorem thawed_sound (h : Sim N tch w0 fr0 S a w fr β) {n g len sz : Nat} {ag : Bool} {xs : List DV} (ht : thawed S n g len sz ag = some xs) (h0 : 0 < S.gen n) (hs0 : 0 < sz) :
    xs.length = len ∧ (∀ x ∈ xs, (cells x).length = sz) ∧ len * sz ≤ (S.box n).length ∧ (S.box n).take (len * sz) = (flat xs).map .d ∧ ∃ us : List Value, us.length = len * sz ∧ CRep w fr us (flat xs) ∧ (0 < len → ∀ k, k < len * sz → w.cell? ⟨(β n).b, k, none⟩ = us[k]?) := by
  unfold thawed at ht
  split at ht
  · rename_i hc
    simp only [Option.map_eq_some_iff] at ht
    obtain ⟨ds, hds, rfl⟩ := ht
    have hsp := toD_spec _ _ hds
    have hdl : ds.length = len * sz := by
      have := congrArg List.length hsp
      simp at this
      omega
    have hbn := h.boxes n h0
    have hbl := hbn.len
    rcases Nat.eq_zero_or_pos len with hl0 | hl0
    · subst hl0
      have hd0 : ds = [] := List.eq_nil_of_length_eq_zero (by omega)
      subst hd0
      refine ⟨rfl, by simp [chunk], by omega, by simp [chunk, flat], [], by simp, ⟨rfl, by simp, by simp⟩, fun h => by omega⟩
    · have hpos : 0 < len * sz := Nat.mul_pos hl0 hs0
      obtain ⟨cs, E, hh, hcs, hcp⟩ := hbn.ex (by omega)
      have hcell : ∀ k, w.cell? ⟨(β n).b, k, none⟩ = cs[k]? := fun k => by simp only [World.cell?, hh]; rfl
      have hrep : ∀ (k : Nat) (u : Value) (d : DV), cs[k]? = some u → ds[k]? = some d → DRep w fr u d ∧ one u := by
        intro k u d hu hd
        have hp : (S.box n)[k]? = some (.d d) := by
          have h1 : ((S.box n).take (len * sz))[k]? = some (.d d) := by rw [hsp, List.getElem?_map, hd]; rfl
          rw [List.getElem?_take] at h1
          split at h1
          · exact h1
          · cases h1
        exact ⟨inv_d (hcp k u _ hu hp).1, (hcp k u _ hu hp).2⟩
      have hna : ∀ d ∈ ds, ∀ c, d ≠ .agg c := by
        intro d hd c e
        subst e
        obtain ⟨k, hk⟩ := List.mem_iff_getElem?.1 hd
        have hkl := (List.getElem?_eq_some_iff.1 hk).1
        have hkc : k < cs.size := by omega
        obtain ⟨hr, ho⟩ := hrep k cs[k] _ (by simp [hkc]) hk
        obtain ⟨vs, e, _⟩ := agg_inv hr
        rw [e] at ho
        simp [one, Value.oneCell'] at ho
      obtain ⟨hf, hz⟩ := chunk_flat hc.2.2 len ds hdl (fun _ => hna)
      refine ⟨chunk_len _ _, hz, hc.2.1, by rw [hf, hsp], cs.toList.take (len * sz), by simp; omega, ?_, fun _ k hk => ?_⟩
      · rw [hf]
        refine ⟨by simp; omega, fun u hu => ?_, fun k u p hu hp => ?_⟩
        · obtain ⟨k, hk⟩ := List.mem_iff_getElem?.1 hu
          rw [List.getElem?_take] at hk
          split at hk
          · rename_i hkl
            exact (hrep k u _ (by simpa using hk) (List.getElem?_eq_getElem (by omega))).2
          · cases hk
        · rw [List.getElem?_take] at hu
          split at hu
          · exact (hrep k u p (by simpa using hu) hp).1
          · cases hu
      · rw [hcell, List.getElem?_take, if_pos hk]
        simp
  · cases ht

/-- What is put behind. -/
theorem src_sound (h : Sim N tch w0 fr0 S a w fr β) {e : TypeId} {i : TypeInfo} {z : Value} {x : Operand} {tx : TypeId} {by_ : Nat} {xl : Nat} {ys : List DV} {rd : Bool} (hsrc : appSrc P rd S e x tx = some ys) (hz : zeroT P e = some z) (his : i.size = szT P e) (hib : i.bytes = by_) (hzs : z.cells.size = szT P e)
    (hpos : 0 < szT P e) (hzy : ∀ x ∈ ys, (cells x).length = i.size) (hlen : xl + ys.length ≤ 140737488355328) (hbound : (xl + ys.length) * by_ ≤ 140737488355328) :
    ∃ (m : Nat) (news : List Value), ASrc P i.size i.bytes z tx (a.eval x) m news w ∧ m = ys.length ∧ CRep w fr news (flat ys) ∧ (∀ n g len sz ag, S.ev x = .bsl n g len sz ag → g = S.gen n ∧ ((S.box n).length = len * sz → (flat ys).map .d = S.box n) ∧ (0 < len → ∀ k, k < len * sz → w.cell? ⟨(β n).b, k, none⟩ = news[k]?)) := by
  unfold appSrc at hsrc
  have hx := h.ev x
  split at hsrc
  · rename_i ys' e' hp hu
    cases hsrc
    rw [hp] at hx
    obtain ⟨A, cap, sz, us, ev, hcap, hsz, ha, h1, hh⟩ := slice_inv (inv_d hx)
    have hesz : 0 < ys.length → sz = i.size := by
      intro h0
      obtain ⟨q, hq⟩ := List.exists_mem_of_length_pos h0
      rw [← hsz q hq, hzy q hq]
    have hog : ∀ k, k < ys.length * i.size → ((List.range (ys.length * i.size)).map us)[k]? = some (us k) := by
      intro k hk
      simp [hk]
    have hfc : ∀ w2 : World, w2.heap = w.heap → (Builtin.firstCells i.size ys.length (.slice A ys.length cap)).run P w2 = .ok ((List.range (ys.length * i.size)).map us).toArray w2 := by
      intro w2 hw2
      rcases Nat.eq_zero_or_pos ys.length with h0 | h0
      · rw [h0, Nat.zero_mul]
        cases A with
        | none => simp [Builtin.firstCells]
        | some ad => simp [Builtin.firstCells, loadCells, loadCellsFrom]
      · obtain ⟨ad, rfl, hsp, hf, hcc⟩ := ha h0
        refine run_firstCells_some w2 i.size ys.length ad ys.length cap _ (by simp) fun j u hj => ?_
        have hjl : j < ys.length * i.size := by
          have := (List.getElem?_eq_some_iff.1 hj).1
          simpa using this
        rw [hog j hjl] at hj
        cases hj
        rw [add_off hsp, ← hcc j (by rw [hesz h0]; exact hjl)]
        simp only [World.cell?, hw2]
    refine ⟨ys.length, (List.range (ys.length * i.size)).map us, ?_, rfl, ?_, fun n g len sz ag e => by rw [hp] at e; cases e⟩
    · rw [ev]
      exact .row _ hu (by simp) rfl rfl (hfc w rfl) (hfc w.drew rfl)
    · refine ⟨by simp [flat_length hzy], fun u hu => ?_, fun k u p hu hp => ?_⟩
      · simp only [List.mem_map, List.mem_range] at hu
        obtain ⟨k, hk, rfl⟩ := hu
        have h0 : 0 < ys.length := by
          rcases Nat.eq_zero_or_pos ys.length with h0 | h0
          · rw [h0, Nat.zero_mul] at hk; omega
          · exact h0
        exact h1 k (by rw [hesz h0]; exact hk)
      · have hk : k < ys.length * i.size := by
          have := (List.getElem?_eq_some_iff.1 hu).1
          simpa using this
        rw [hog k hk] at hu
        cases hu
        exact hh k p hp
  · rename_i st hp hu
    cases hsrc
    rw [hp] at hx
    have ev := inv_str hx
    have hfl : flat (st.map fun b => DV.int .u8 b.toNat) = st.map fun b => DV.int .u8 b.toNat := by
      clear hzy hbound hlen hp hx ev
      induction st with
      | nil => rfl
      | cons b st ih => rw [List.map_cons, flat_cons, ih]; rfl
    have hfc : ∀ w2 : World, (Builtin.firstCells i.size st.length (.string ⟨st.toArray⟩)).run P w2 = .ok (st.map fun b => Value.int .u8 b.toNat).toArray w2 := by
      intro w2
      have hex : (ByteArray.mk st.toArray).extract 0 st.length = ByteArray.mk st.toArray := by
        apply ByteArray.ext
        simp
      simp only [Builtin.firstCells, hex, Sem.run_pure]
      congr 1
      simp
    refine ⟨st.length, st.map fun b => .int .u8 b.toNat, ?_, by simp, ?_, fun n g len sz ag e => by rw [hp] at e; cases e⟩
    · rw [ev]
      refine .row _ hu (by simp) ?_ ?_ (hfc w) (hfc w.drew)
      · simp [Builtin.lenOf, str_size]
      · simp [Builtin.lenOf, str_size]
    · rw [hfl]
      refine ⟨by simp, fun u hu => ?_, fun k u p hu hp => ?_⟩
      · simp only [List.mem_map] at hu
        obtain ⟨b, _, rfl⟩ := hu
        rfl
      · rw [List.getElem?_map] at hu hp
        cases hk : st[k]? with
        | none => rw [hk] at hu; cases hu
        | some b =>
          rw [hk] at hu hp
          cases hu
          cases hp
          exact .int _ _
  · rename_i k n kn hp hu
    rw [hp] at hx
    have ev := inv_int hx
    rw [hz] at hsrc
    simp only at hsrc
    split at hsrc
    · rename_i hn
      cases hsrc
      obtain ⟨m, rfl⟩ := Int.eq_ofNat_of_zero_le hn.1
      have hzc : z.cells = #[z] := by
        have := hn.2.2
        cases z <;> first | rfl | simp [Value.oneCell'] at this
      have hi1 : i.size = 1 := by rw [his, ← hzs, hzc]; rfl
      have hrep : (Builtin.zeroCells z.cells m).toList = List.replicate m z := by
        rw [hzc]
        apply List.ext_getElem?
        intro q
        simp [Builtin.zeroCells, Nat.mod_one]
        by_cases hq : q < m <;> simp [hq]
      have hcz : cells (ofConstD z) = [ofConstD z] := by
        have := hn.2.2
        cases z <;> first | rfl | (simp [Value.oneCell'] at this; done) | (unfold ofConstD; split <;> rfl)
      refine ⟨m, List.replicate m z, ?_, by simp, ?_, fun n g len sz ag e => by rw [hp] at e; cases e⟩
      · rw [ev]
        refine .zeros kn k hu rfl hn.2.1 ?_ (by omega) hrep.symm
        have hl : (List.replicate (m : Int).toNat (ofConstD z)).length = m := by simp
        rw [hl] at hbound
        have : m * by_ ≤ (xl + m) * by_ := Nat.mul_le_mul_right _ (by omega)
        rw [hib]
        omega
      · have hf : flat (List.replicate (m : Int).toNat (ofConstD z)) = List.replicate m (ofConstD z) := by
          have e : (m : Int).toNat = m := by simp
          rw [e]
          clear hrep hbound hlen hn ev hu hx hp hzy
          induction m with
          | zero => rfl
          | succ m ih => rw [List.replicate_succ, flat_cons, ih (by simp), hcz]; rfl
        rw [hf]
        refine ⟨by simp, fun u hu => ?_, fun q u p hu hp => ?_⟩
        · rw [List.eq_of_mem_replicate hu]; exact hn.2.2
        · have hq : q < m := by
            have := (List.getElem?_eq_some_iff.1 hu).1
            simpa using this
          simp [hq] at hu hp
          subst hu hp
          exact ofConstD_rep hn.2.2
    · cases hsrc
  · rename_i n g len sz ag e' hp hu
    rw [hp] at hx
    split at hsrc
    case isFalse => cases hsrc
    obtain ⟨A, cap, ev, h0, hs0, hA⟩ := inv_bsl hx
    have hg : g = S.gen n := by
      unfold thawed at hsrc
      split at hsrc
      · rename_i hc; exact hc.1
      · cases hsrc
    obtain ⟨hyl, hyz, hle, htk, us, hul, hur, huc⟩ := thawed_sound h hsrc (by rw [← hg]; exact h0) hs0
    have hbn := h.boxes n (by rw [← hg]; exact h0)
    have hbl := hbn.len
    obtain ⟨hA1, _, _⟩ := hA hg
    have hfc : ∀ w2 : World, w2.heap = w.heap → (Builtin.firstCells i.size len (.slice A len cap)).run P w2 = .ok us.toArray w2 := by
      intro w2 hw2
      rcases Nat.eq_zero_or_pos len with hl0 | hl0
      · subst hl0
        have : us = [] := List.eq_nil_of_length_eq_zero (by omega)
        subst this
        cases A with
        | none => simp [Builtin.firstCells]
        | some ad => simp [Builtin.firstCells, loadCells, loadCellsFrom]
      · have hsz : sz = i.size := by
          obtain ⟨q, hq⟩ := List.exists_mem_of_length_pos (l := ys) (by omega)
          rw [← hyz q hq, hzy q hq]
        have hc0 : 0 < (β n).c := by
          have := Nat.mul_pos hl0 hs0
          omega
        obtain rfl := hA1 hc0
        refine run_firstCells_some w2 i.size len _ len cap _ (by rw [hul, hsz]) fun j u hj => ?_
        have hjl : j < len * sz := by
          have := (List.getElem?_eq_some_iff.1 hj).1
          omega
        rw [add_off rfl]
        simp only [Nat.zero_add]
        rw [← hj, ← huc hl0 j hjl]
        simp only [World.cell?, hw2]
    refine ⟨len, us, ?_, hyl.symm, hur, fun n' g' len' sz' ag' e => by rw [hp] at e; cases e; exact ⟨hg, fun e1 => by rw [← htk, List.take_of_length_le (by omega)], huc⟩⟩
    rw [ev]
    exact .row _ hu (by simp) rfl rfl (hfc w rfl) (hfc w.drew rfl)
  · cases hsrc

theorem apEl_spec {t e : TypeId} {by_ : Nat} {z : Value} (h : apEl P t = some (e, by_, z)) : elT P t = some e ∧ bytT P e = some by_ ∧ zeroT P e = some z ∧ z.cells.size = szT P e ∧ 0 < szT P e ∧ 0 < by_ := by
  unfold apEl at h
  split at h
  · rename_i e' he
    split at h
    · rename_i b' z' hb hz
      split at h
      · rename_i hc
        cases h
        exact ⟨he, hb, hz, hc⟩
      · cases h
    · cases h
  · cases h

theorem flatP_rep {news : List Value} {ys : List DV} (hR : CRep w fr news (flat ys)) {gen : Nat → Nat} (k : Nat) (u : Value) (p : PV) (hu : news[k]? = some u) (hp : ((flat ys).map PV.d)[k]? = some p) : PRep w fr β gen u p ∧ one u := by
  rw [List.getElem?_map] at hp
  cases hq : (flat ys)[k]? with
  | none => rw [hq] at hp; cases hp
  | some q =>
    rw [hq] at hp
    cases hp
    exact ⟨.d _ _ (hR.2.2 k u q hu hq), hR.2.1 u (List.mem_of_getElem? hu)⟩

/-- As 'Does', of a box that has grown: what its new cells are, and that the other blocks are as they were. -/
def DoesX (P : Program) (N : Nat) (tch : Env) (w0 : World) (fr0 : Nat → Option Nat) (S S' : PS) (o : Oper) (a : Act) (w : World) (β : Nat → Blk) (n L : Nat) (news : List Value) : Prop :=
  ∃ w' fr' β' v, (execOp a.eval o).run P w = .ok (.value v) w' ∧ Sim N tch w0 fr0 S' (a.put o.dst v) w' fr' β' ∧ (∀ (j : Nat) (u : Value), news[j]? = some u → w'.cell? ⟨(β' n).b, L + j, none⟩ = some u) ∧
    (∀ k, k ≠ n → β' k = β k) ∧ ∀ b, b < w.heap.size → (0 < S.gen n → 0 < (β n).c → b ≠ (β n).b) → w'.heap[b]? = w.heap[b]?
theorem DoesX.does {P : Program} {N : Nat} {tch : Env} {w0 : World} {fr0 : Nat → Option Nat} {S S' : PS} {o : Oper} {a : Act} {w : World} {β : Nat → Blk} {n L : Nat} {news : List Value} (h : DoesX P N tch w0 fr0 S S' o a w β n L news) :
    Does P N tch w0 fr0 S' o a w := by
  obtain ⟨w', fr', β', v, hr, hS, _⟩ := h
  exact ⟨w', fr', β', .inl ⟨v, hr, hS⟩⟩
/-- A slice that is a box grows. -/
theorem grow_sound (h : Sim N tch w0 fr0 S a w fr β) {o : Oper} {s n len m by_ cap : Nat} {ag : Bool} {t tx e : TypeId} {i : TypeInfo} {z x : Value} {ys : List DV} {news : List Value} {A : Option Addr}
    (hexec : ∀ v w', (Builtin.append_ #[t, tx] o.type #[a.tmps.getD s undef, x]).run P w = .ok v w' → (execOp a.eval o).run P w = .ok (.value v) w') (hd : ∀ d, o.dst = some d → d < N) {d : Nat} (hdd : o.dst = some d)
    (ht : elT P t = some e) (hi : P.info? e = some i) (hiz : i.zero = some z) (hzs : z.cells.size = szT P e) (his : i.size = szT P e) (hib : i.bytes = by_) (hpos : 0 < szT P e)
    (hA : ASrc P i.size i.bytes z tx x m news w) (hm : m = ys.length) (hR : CRep w fr news (flat ys)) (hzy : ∀ x ∈ ys, (cells x).length = i.size) (hbl : (S.box n).length = len * szT P e) (hbound : (len + ys.length) * by_ ≤ 140737488355328)
    (hgn : 0 < S.gen n) (ev : a.tmps.getD s undef = .slice A len cap) (hA1 : 0 < (β n).c → A = some ⟨(β n).b, 0, none⟩) (hlc : len ≤ cap) (hcap : cap * szT P e = (β n).c) (hbn : BoxOk tch.tch w0 w fr β S.gen (β n) (S.box n)) (hnl : news.length = ys.length * i.size) (hlen : len + ys.length ≤ 140737488355328) :
    DoesX P N tch w0 fr0 S ((⟨o.dst, .bsl n (S.gen n + 1) (len + ys.length) (szT P e) ag, fun _ => false, fun _ => false, [⟨n, S.gen n + 1, S.box n ++ (flat ys).map .d, fun k => S.own (.b n k)⟩]⟩ : Eff).apply S) o a w β n (len * szT P e) news := by
  have hbnl : len * szT P e ≤ (β n).c := by rw [← hbl]; exact hbn.len
  rw [hdd]
  by_cases hroom : len + m ≤ cap
  · by_cases hm0 : ys = []
    · subst hm0
      have hm0 : m = 0 := hm
      subst hm0
      have hn0 : news = [] := List.eq_nil_of_length_eq_zero (by rw [hnl]; simp)
      subst hn0
      have hrun := app_room (ty := o.type) (under_of_el ht) hi hiz hA (A := A) (n := len) (c := cap) hroom (w' := w) (fun ad _ => rfl) (fun _ => rfl)
      refine ⟨w, fr, upd β n (β n), _, hexec _ _ (by rw [ev]; exact hrun), ?_, fun j u hu => by simp at hu, fun k hk => upd_ne _ _ hk, fun _ _ _ => rfl⟩
      rw [hdd]
      exact h.bump (hd d hdd) (β n) _ _ _ _ (len + ([] : List DV).length) (szT P e) cap ag A (.inl ⟨hgn, rfl, by simp [flat], fun k hk => hk⟩) hpos (by simpa using hroom) hcap hA1 (by simp)
    · have hm1 : 0 < ys.length := List.length_pos_iff.2 hm0
      have hc0 : 0 < (β n).c := by
        rw [← hcap]
        exact Nat.mul_pos (by omega) hpos
      obtain rfl := hA1 hc0
      obtain ⟨cs, E', hh, hcs, hcp⟩ := hbn.ex hc0
      have hfit : len * szT P e + news.length ≤ (β n).c := by
        rw [hnl, his, ← hcap, ← Nat.add_mul]
        exact Nat.mul_le_mul_right _ (by omega)
      have hst : (storeCells ⟨(β n).b, len * szT P e, none⟩ news).run P w = .ok () (w.setCells (β n).b (len * szT P e) news) := by
        refine run_storeCells_cells (P := P) (β n).b (len * szT P e) _ 0 w (fun j hj => ?_) (fun j hj => ?_) (fun u hu => hR.2.1 u hu)
        · simp only [World.cell?, hh]
          have : len * szT P e + (0 + j) < cs.size := by omega
          simp
          omega
        · simp [World.frozen?, hh]
      have hrun := app_room (ty := o.type) (under_of_el ht) hi hiz hA (A := some ⟨(β n).b, 0, none⟩) (n := len) (c := cap) hroom (w' := w.setCells (β n).b (len * szT P e) news) (fun ad had => by
        cases had
        rw [add_off rfl, his]
        simp only [Nat.zero_add]
        exact hst) (fun h => by cases h)
      have hpl : ((flat ys).map PV.d).length = news.length := by rw [List.length_map, hR.1]
      have hS1 := h.setBox hgn (off := len * szT P e) news ((flat ys).map .d) (fun _ => false) (fun k => S.own (.b n k)) (fun _ _ => rfl) hpl.symm (by omega) (by omega) hc0 (fun k u p hu hp => flatP_rep hR k u p hu hp)
        (fun k hk => .inl ⟨by have := (h.live n k hk).2; omega, hk⟩)
      have hdrop : (S.box n).take (len * szT P e) ++ (flat ys).map PV.d ++ (S.box n).drop (len * szT P e + ((flat ys).map PV.d).length) = S.box n ++ (flat ys).map .d := by
        rw [List.take_of_length_le (by omega), List.drop_eq_nil_of_le (by omega), List.append_nil]
      rw [hdrop] at hS1
      have hg1 : ((⟨none, .undef, fun _ => false, fun _ => false, [⟨n, S.gen n, S.box n ++ (flat ys).map .d, fun k => S.own (.b n k)⟩]⟩ : Eff).apply S).gen n = S.gen n := by
        show (match findU [⟨n, S.gen n, S.box n ++ (flat ys).map .d, fun k => S.own (.b n k)⟩] n with | some u => u.g | none => S.gen n) = _
        simp
      have hS2 := hS1.bump (d := d) (n := n) (hd d hdd) (β n) (S.box n ++ (flat ys).map .d) (fun k => S.own (.b n k)) (fun _ => false) (.slice (some ⟨(β n).b, 0, none⟩) (len + ys.length) cap) (len + ys.length) (szT P e) cap ag (some ⟨(β n).b, 0, none⟩)
        (.inl ⟨by rw [hg1]; exact hgn, rfl, by simp [Eff.apply], fun k hk => by simp [Eff.apply, hk]⟩) hpos (by omega) hcap (fun _ => rfl) rfl
      refine ⟨_, fr, upd β n (β n), _, hexec _ _ (by rw [ev]; exact hrun), ?_, fun j u hu => ?_, fun k hk => upd_ne _ _ hk, fun b hb hne => setCells_heap_ne _ _ _ _ _ (hne hgn hc0)⟩
      rotate_left
      · rw [upd_same]
        have hjl := (List.getElem?_eq_some_iff.1 hu).1
        obtain ⟨cs', hcs'⟩ : ∃ cs' : List Value, cs'.toArray = cs := ⟨cs.toList, by simp⟩
        have hh' : w.heap[(β n).b]? = some (.cells cs'.toArray E' (0, 0)) := by rw [hcs']; exact hh
        have := setCells_heap_at (β n).b news (len * szT P e) w cs' E' (0, 0) hh' (by rw [← hcs'] at hcs; simp at hcs; omega)
        simp only [World.cell?, this]
        have hl' : cs'.length = (β n).c := by rw [← hcs, ← hcs']; simp
        simp only [List.getElem?_toArray]
        rw [List.getElem?_append_left (by simp; omega), List.getElem?_append_right (by simp; omega)]
        simp only [List.length_take]
        rw [show len * szT P e + j - min (len * szT P e) cs'.length = j by omega]
        simp [hu]
      rw [hdd, hm]
      rw [hg1] at hS2
      have hEq : ((⟨some d, .bsl n (S.gen n + 1) (len + ys.length) (szT P e) ag, fun _ => false, fun _ => false, [⟨n, S.gen n + 1, S.box n ++ (flat ys).map .d, fun k => S.own (.b n k)⟩]⟩ : Eff).apply ((⟨none, .undef, fun _ => false, fun _ => false, [⟨n, S.gen n, S.box n ++ (flat ys).map .d, fun k => S.own (.b n k)⟩]⟩ : Eff).apply S)) =
          ((⟨some d, .bsl n (S.gen n + 1) (len + ys.length) (szT P e) ag, fun _ => false, fun _ => false, [⟨n, S.gen n + 1, S.box n ++ (flat ys).map .d, fun k => S.own (.b n k)⟩]⟩ : Eff).apply S) := by
        simp only [Eff.apply, findU_one]
        congr 1
        · funext q
          by_cases e : n = q <;> simp [e]
        · funext q
          by_cases e : n = q <;> simp [e]
        · funext l
          cases l with
          | t i j => simp
          | b q k => by_cases e : n = q <;> simp [e]
      rw [hEq] at hS2
      exact hS2
  · have hml : m = ys.length := hm
    have hC0 : 0 < i.bytes → True := fun _ => trivial
    -- the old cells
    obtain ⟨olds, hol, hog, hofc⟩ : ∃ olds : List Value, olds.length = len * szT P e ∧ (∀ (k : Nat) (u : Value), olds[k]? = some u → w.cell? ⟨(β n).b, k, none⟩ = some u) ∧ (Builtin.firstCells i.size len (.slice A len cap)).run P w.drew = .ok olds.toArray w.drew := by
      rcases Nat.eq_zero_or_pos len with hl0 | hl0
      · subst hl0
        refine ⟨[], by simp, by simp, ?_⟩
        cases A with
        | none => simp [Builtin.firstCells]
        | some ad => simp [Builtin.firstCells, loadCells, loadCellsFrom]
      · have hp0 := Nat.mul_pos hl0 hpos
        have hc0 : 0 < (β n).c := by omega
        obtain rfl := hA1 hc0
        obtain ⟨cs, E', hh, hcs, hcp⟩ := hbn.ex hc0
        have hcell : ∀ k, w.cell? ⟨(β n).b, k, none⟩ = cs[k]? := fun k => by simp only [World.cell?, hh]; rfl
        refine ⟨cs.toList.take (len * szT P e), by simp; omega, fun k u hk => ?_, ?_⟩
        · rw [List.getElem?_take] at hk
          split at hk
          · rw [hcell]
            simpa using hk
          · cases hk
        · refine run_firstCells_some w.drew i.size len _ len cap _ (by rw [his]; simp; omega) fun j u hj => ?_
          rw [List.getElem?_take] at hj
          split at hj
          · rw [add_off rfl]
            simp only [Nat.zero_add]
            have : w.drew.cell? ⟨(β n).b, j, none⟩ = w.cell? ⟨(β n).b, j, none⟩ := rfl
            rw [this, hcell]
            simpa using hj
          · cases hj
    have hrun := app_grow (ty := o.type) (under_of_el ht) hi hiz (A := A) (n := len) (c := cap) (olds := olds) hA hofc (by omega) (by omega) (by rw [hm, hib]; exact hbound)
    have hge := grownCap_ge w (len + m) cap e
    generalize hC : grownCap w (len + m) cap e = C at hrun hge
    obtain ⟨row, hrow⟩ : ∃ row : List Value, row = olds ++ news ++ (Builtin.zeroCells z.cells (C - (len + m))).toList := ⟨_, rfl⟩
    rw [← hrow] at hrun
    have hrl : row.length = C * szT P e := by
      rw [hrow]
      simp only [List.length_append, hol, hnl, Array.length_toList, zeroCells_size, hzs, his, hm]
      rw [← Nat.add_mul, ← Nat.add_mul]
      congr 1
      omega
    have hfx : Fresh w fr (w.drew.alloc (.cells row.toArray e)) (upd fr w.heap.size (some 0)) := by
      refine ⟨rfl, rfl, rfl, by show w.heap.size ≤ (w.heap.push _).size; simp, fun b hb => Below.heap_alloc w.drew _ _ hb, fun b hb => upd_ne _ _ (by omega), fun b f hf => ?_⟩
      by_cases e : b = w.heap.size
      · subst e
        show w.heap.size < (w.heap.push _).size
        simp
      · rw [upd_ne _ _ e] at hf
        have := h.frb b f hf
        show b < (w.heap.push _).size
        simp
        omega
    have holdrep : ∀ (k : Nat) (u : Value) (p : PV), k < len * szT P e → olds[k]? = some u → (S.box n)[k]? = some p → PRep w fr β S.gen u p ∧ one u := by
      intro k u p hk hu hp
      have hc0 : 0 < (β n).c := by omega
      obtain ⟨cs, E', hh, hcs, hcp⟩ := hbn.ex hc0
      have hcell : w.cell? ⟨(β n).b, k, none⟩ = cs[k]? := by simp only [World.cell?, hh]; rfl
      have := hog k u hu
      rw [hcell] at this
      exact hcp k u p this hp
    refine ⟨_, upd fr w.heap.size (some 0), upd β n ⟨w.heap.size, row.toArray.size⟩, _, hexec _ _ (by rw [ev]; exact hrun), ?_, fun j u hu => ?_, fun k hk => upd_ne _ _ hk, fun b hb _ => Below.heap_alloc w.drew _ _ hb⟩
    rotate_left
    · rw [upd_same]
      have hjl := (List.getElem?_eq_some_iff.1 hu).1
      show (w.drew.alloc (.cells row.toArray e)).cell? ⟨w.drew.heap.size, len * szT P e + j, none⟩ = some u
      rw [cell_alloc_new, List.getElem?_toArray, hrow, List.append_assoc, List.getElem?_append_right (by omega), List.getElem?_append_left (by omega)]
      rw [hol, show len * szT P e + j - len * szT P e = j by omega]
      exact hu
    rw [hdd, hm]
    refine h.newBox (hd d hdd) hfx (Nat.le_refl _) row.toArray e (heap_alloc_new' w.drew _) _ _ _ _ _ ?_ (fun k u p hu hp => ?_) (fun k hk => .inr ?_) (.inr ⟨len + ys.length, szT P e, C, ag, hpos, by omega, by simp [hrl], rfl, rfl⟩)
    · rw [List.size_toArray, hrl, List.length_append, hbl, List.length_map, flat_length hzy, his, ← Nat.add_mul]
      exact Nat.mul_le_mul_right _ (by omega)
    · rw [List.getElem?_toArray, hrow, List.append_assoc] at hu
      by_cases hk : k < len * szT P e
      · rw [List.getElem?_append_left (by omega)] at hu hp
        exact holdrep k u p hk hu hp
      · rw [List.getElem?_append_right (by omega)] at hu hp
        rw [hol] at hu
        rw [hbl] at hp
        have hkn : k - len * szT P e < news.length := by
          have := (List.getElem?_eq_some_iff.1 hp).1
          rw [List.length_map, ← hR.1] at this
          exact this
        rw [List.getElem?_append_left hkn] at hu
        exact flatP_rep hR _ u p hu hp
    · have hlv := h.live n k hk
      have hkl : k < len * szT P e := by omega
      have hko : k < olds.length := by omega
      refine ⟨hk, ?_, ?_⟩
      · rw [List.getElem?_toArray, hrow, List.append_assoc, List.getElem?_append_left hko, List.getElem?_eq_getElem hko]
        simp only [vat]
        rw [hog k _ (List.getElem?_eq_getElem hko)]
        rfl
      · rw [List.getElem?_append_left hlv.2]
        simp only [PS.at, List.getD_eq_getElem?_getD, List.getElem?_eq_getElem hlv.2]
        rfl


theorem does_append (h : Sim N tch w0 fr0 S a w fr β) {o : Oper} {tr : List Nat} {args : Array Operand} {ts : Array TypeId} {E : Eff} (hd : ∀ d, o.dst = some d → d < N) (ho : o.op = .call ⟨.builtin .append, args, ts⟩) (he : appEff P tr S o args.toList ts.toList = some E) :
    Does P N tch w0 fr0 (E.apply S) o a w ∧ (isBx tr o = true → ∃ u L news tail old s x, args = #[.tmp s, x] ∧ E.bx = [u] ∧ u.c = old ++ tail ∧ old.length = L ∧ tail.length = news.length ∧ 0 < u.g ∧ (∀ n k, E.clr (.b n k) = false) ∧ E.dst.isSome = true ∧ (∀ j, E.ro j = false) ∧
      (∀ m g len sz ag, S.ev x = .bsl m g len sz ag → g = S.gen m ∧ ((S.box m).length = len * sz → tail = S.box m) ∧ (0 < len → ∀ k, k < len * sz → w.cell? ⟨(β m).b, k, none⟩ = news[k]?)) ∧
      DoesX P N tch w0 fr0 S (E.apply S) o a w β u.n L news) := by
  unfold appEff at he
  split at he
  · rename_i s x t tx hargs hts
    obtain rfl : args = #[.tmp s, x] := by rw [← Array.toArray_toList (xs := args), hargs]
    obtain rfl : ts = #[t, tx] := by rw [← Array.toArray_toList (xs := ts), hts]
    have hexec : ∀ v w', (Builtin.append_ #[t, tx] o.type #[a.tmps.getD s undef, a.eval x]).run P w = .ok v w' → (execOp a.eval o).run P w = .ok (.value v) w' := by
      intro v w' hrun
      have hrun' : (Builtin.append_ #[t, tx] o.type #[a.eval (.tmp s), a.eval x]).run P w = .ok v w' := hrun
      simp only [execOp, ho, resolve, invoke, builtin, Sem.run_bind, Sem.run_pure, Result.andThen_ok, List.map_toArray, List.map_cons, List.map_nil, hrun']
    split at he
    · rename_i e by_ z hap
      obtain ⟨ht, hb, hz, hzs, hpos, hb0⟩ := apEl_spec hap
      obtain ⟨i, hi, hiz⟩ := info_of_zero hz
      obtain ⟨i2, hi2, hib⟩ := info_of_byt hb
      rw [hi] at hi2
      cases hi2
      obtain ⟨i3, hi3, his⟩ := info_of_size (P := P) (t := e) hpos
      rw [hi] at hi3
      cases hi3
      split at he
      · rename_i ys hsrc
        split at he
        · rename_i hszy
          have hzy : ∀ x ∈ ys, (cells x).length = i.size := by
            intro q hq
            have := List.all_eq_true.1 hszy q hq
            rw [his]
            simpa using this
          split at he
          · rename_i xs hs
            split at he
            · rename_i hbx
              split at he
              · rename_i d hdd
                split at he
                · rename_i hc
                  obtain ⟨hown, rfl, hbound, hag, _⟩ := hc
                  cases he
                  have hlen : 0 + ys.length ≤ 140737488355328 := by
                    have := Nat.le_mul_of_pos_right ys.length hb0
                    omega
                  obtain ⟨m, news, hA, hm, hR, hX⟩ := src_sound h hsrc hz his hib hzs hpos hzy hlen (by rw [Nat.zero_add]; exact hbound)
                  have hv := h.vals s
                  rw [hs] at hv
                  have hot := h.own _ hown
                  obtain ⟨A, cap, sz, us, ev, hcap, _⟩ := slice_inv (inv_d hv)
                  have hcap0 : cap = 0 := by
                    obtain ⟨xs', e1, hh⟩ := hot
                    have hvs : vat a w β (.t s 0) = .slice A ([] : List DV).length cap := by simp only [vat, ev]; rfl
                    rw [hvs] at hh
                    have e1' : S.at (.t s 0) = .d (.slice []) := by simp only [PS.at, hs, PV.part]
                    rw [e1'] at e1
                    cases e1
                    rcases hh with ⟨A', n', e2⟩ | ⟨b, c, cur, E', sz', e2, q1, q2, q3⟩
                    · cases e2; rfl
                    · simp at q2
                  subst hcap0
                  have hnl : news.length = ys.length * i.size := by rw [hR.1, flat_length hzy]
                  have hDX : DoesX P N tch w0 fr0 S ((⟨o.dst, .bsl (S.fo + d) (S.gen (S.fo + d) + 1) ys.length (szT P e) (aggT P e == some true), fun _ => false, slotOf s, [⟨S.fo + d, S.gen (S.fo + d) + 1, (flat ys).map .d, fun _ => false⟩]⟩ : Eff).apply S) o a w β (S.fo + d) 0 news := by
                   by_cases hm0 : ys = []
                   · subst hm0
                     have hm0 : m = 0 := hm
                     subst hm0
                     have hn0 : news = [] := List.eq_nil_of_length_eq_zero (by rw [hnl]; simp)
                     subst hn0
                     have hrun := app_room (ty := o.type) (under_of_el ht) hi hiz hA (A := A) (n := 0) (c := 0) (by omega) (w' := w) (fun ad _ => rfl) (fun _ => rfl)
                     refine ⟨w, fr, upd β (S.fo + d) ⟨0, 0⟩, _, hexec _ _ (by rw [ev]; exact hrun), ?_, fun j u hu => by simp at hu, fun k hk => upd_ne _ _ hk, fun _ _ _ => rfl⟩
                     rw [hdd]
                     exact h.bump (hd d hdd) ⟨0, 0⟩ _ _ (slotOf s) _ 0 (szT P e) 0 _ A (.inr ⟨rfl, rfl, fun _ => rfl⟩) hpos (Nat.le_refl _) (by simp) (fun h => absurd h (by simp)) rfl
                   · have hm1 : 0 < ys.length := List.length_pos_iff.2 hm0
                     have hrun := app_grow (ty := o.type) (under_of_el ht) hi hiz (A := A) (n := 0) (c := 0) (olds := []) hA (by
                       cases A with
                       | none => simp [Builtin.firstCells]
                       | some ad => simp [Builtin.firstCells, loadCells, loadCellsFrom]) (by omega) (by omega) (by rw [hm, hib]; simpa using hbound)
                     have hge := grownCap_ge w (0 + m) 0 e
                     generalize hC : grownCap w (0 + m) 0 e = C at hrun hge
                     have hfx : Fresh w fr (w.drew.alloc (.cells ([] ++ news ++ (Builtin.zeroCells z.cells (C - (0 + m))).toList).toArray e)) (upd fr w.heap.size (some 0)) := by
                       have hd1 : Fresh w fr w.drew fr := ⟨rfl, rfl, rfl, Nat.le_refl _, fun _ _ => rfl, fun _ _ => rfl, h.frb⟩
                       refine ⟨rfl, rfl, rfl, by simp, fun b hb => Below.heap_alloc w.drew _ _ hb, fun b hb => upd_ne _ _ (by omega), fun b f hf => ?_⟩
                       by_cases e : b = w.heap.size
                       · subst e
                         show w.heap.size < (w.heap.push _).size
                         simp
                       · rw [upd_ne _ _ e] at hf
                         have := h.frb b f hf
                         show b < (w.heap.push _).size
                         simp
                         omega
                     have hcsz : ([] ++ news ++ (Builtin.zeroCells z.cells (C - (0 + m))).toList).toArray.size = C * szT P e := by
                       simp only [List.nil_append, List.size_toArray, List.length_append, hnl, Array.length_toList, zeroCells_size, hzs, his, hm]
                       rw [← Nat.add_mul]
                       congr 1
                       omega
                     refine ⟨_, upd fr w.heap.size (some 0), upd β (S.fo + d) ⟨w.heap.size, ([] ++ news ++ (Builtin.zeroCells z.cells (C - (0 + m))).toList).toArray.size⟩, _, hexec _ _ (by rw [ev]; exact hrun), ?_, fun j u hu => ?_, fun k hk => upd_ne _ _ hk, fun b hb _ => Below.heap_alloc w.drew _ _ hb⟩
                     rotate_left
                     · rw [upd_same]
                       have hjl := (List.getElem?_eq_some_iff.1 hu).1
                       show (w.drew.alloc (.cells ([] ++ news ++ (Builtin.zeroCells z.cells (C - (0 + m))).toList).toArray e)).cell? ⟨w.drew.heap.size, 0 + j, none⟩ = some u
                       rw [show (0 + j) = j by omega, cell_alloc_new, List.getElem?_toArray, List.nil_append, List.getElem?_append_left (by omega)]
                       exact hu
                     rw [hdd]
                     refine h.newBox (hd d hdd) hfx (Nat.le_refl _) _ e (heap_alloc_new' w.drew _) _ _ (slotOf s) _ _ ?_ (fun k u p hu hp => ?_) (by simp) (.inr ⟨ys.length, szT P e, C, _, hpos, by omega, hcsz.symm, rfl, by rw [hm, Nat.zero_add]⟩)
                     · rw [hcsz, List.length_map, flat_length hzy, his]
                       exact Nat.mul_le_mul_right _ (by omega)
                     · have hk : k < news.length := by
                         have := (List.getElem?_eq_some_iff.1 hp).1
                         rw [List.length_map, ← hR.1] at this
                         exact this
                       refine flatP_rep hR k u p ?_ hp
                       rw [List.nil_append, List.getElem?_toArray, List.getElem?_append_left hk] at hu
                       exact hu
                  exact ⟨hDX.does, fun _ => ⟨_, 0, news, (flat ys).map .d, [], s, x, rfl, rfl, rfl, rfl, by rw [List.length_map, hR.1], by simp, fun _ _ => rfl, by rw [hdd]; rfl, fun _ => rfl, hX, hDX⟩⟩
                · cases he
              · cases he
            · split at he
              · rename_i hc
                obtain ⟨hown, hszx, hbound⟩ := hc
                cases he
                have hzx : ∀ x ∈ xs, (cells x).length = i.size := by
                  intro q hq
                  have := List.all_eq_true.1 hszx q hq
                  rw [his]
                  simpa using this
                have hlen : xs.length + ys.length ≤ 140737488355328 := Nat.le_trans (Nat.le_mul_of_pos_right _ hb0) hbound
                obtain ⟨m, news, hA, hm, hR, hX⟩ := src_sound h hsrc hz his hib hzs hpos hzy hlen hbound
                obtain ⟨v, w', fr', hrun, hS⟩ := h.append (P := P) (ty := o.type) hd hs hown (under_of_el ht) hi hiz (by rw [hzs, his]) (by omega) hA hm hR hzx hzy (by omega) (by rw [hib]; exact hbound)
                exact ⟨⟨w', fr', β, .inl ⟨v, hexec v w' hrun, hS⟩⟩, fun hb => absurd hb (by assumption)⟩
              · cases he
          · rename_i n g len sz ag hs
            split at he
            · rename_i hc
              obtain ⟨hg, rfl, hbl, hbound, hds, hbxx⟩ := hc
              cases he
              have hlen : len + ys.length ≤ 140737488355328 := Nat.le_trans (Nat.le_mul_of_pos_right _ hb0) hbound
              obtain ⟨m, news, hA, hm, hR, hX⟩ := src_sound h hsrc hz his hib hzs hpos hzy hlen hbound
              have hv := h.vals s
              rw [hs] at hv
              obtain ⟨A, cap, ev, h0, hs0, hAA⟩ := inv_bsl hv
              obtain ⟨hA1, hlc, hcap⟩ := hAA hg
              have hgn : 0 < S.gen n := by rw [← hg]; exact h0
              have hbn := h.boxes n hgn
              have hbnl := hbn.len
              have hnl : news.length = ys.length * i.size := by rw [hR.1, flat_length hzy]
              subst hg
              obtain ⟨d, hdd⟩ := Option.isSome_iff_exists.1 hds
              have hDX := grow_sound (ag := ag) h hexec hd hdd ht hi hiz hzs his hib hpos hA hm hR hzy hbl hbound hgn ev hA1 hlc hcap hbn hnl hlen
              exact ⟨hDX.does, fun _ => ⟨_, _, news, (flat ys).map .d, S.box n, s, x, rfl, rfl, rfl, hbl, by rw [List.length_map, hR.1], by simp, fun _ _ => rfl, by rw [hdd]; rfl, fun _ => rfl, hX, hDX⟩⟩
            · cases he
          · cases he
        · cases he
      · cases he
    · cases he
  · cases he

def PS.kills (S : PS) (ns : List Nat) : PS := (⟨none, .undef, fun _ => false, fun _ => false, ns.map (kill S)⟩ : Eff).apply S

/-- A box is let go: nobody writes it any more. -/
theorem Sim.freeze1 (h : Sim N tch w0 fr0 S a w fr β) {n : Nat} (hn : 0 < S.gen n) :
    ∃ fr' β', Sim N tch w0 fr0 (S.kills [n]) a w fr' β' ∧ DExt w fr w fr' ∧ GExt β S.gen β' (S.kills [n]).gen ∧ (∀ m, m ≠ n → β' m = β m) ∧ (0 < (β n).c → fr' (β n).b = some (β n).c) ∧ (∀ b, fr b ≠ some 0 → fr' b = fr b) ∧
      (∀ m, m ≠ n → 0 < S.gen m → 0 < (β m).c → fr' (β m).b = fr (β m).b) := by
  have hbn := h.boxes n hn
  let fr' : Nat → Option Nat := if 0 < (β n).c then upd fr (β n).b (some (β n).c) else fr
  have hfr1 : 0 < (β n).c → fr' = upd fr (β n).b (some (β n).c) := fun h0 => if_pos h0
  have hfr2 : ¬ 0 < (β n).c → fr' = fr := fun h0 => if_neg h0
  have hbne : ∀ m, m ≠ n → 0 < S.gen m → 0 < (β m).c → 0 < (β n).c → (β m).b ≠ (β n).b := fun m hm h1 h2 h3 e => hm (h.binj m n h1 hn h2 h3 e)
  have hfre : ∀ b, fr b ≠ some 0 → fr' b = fr b := by
    intro b hb
    by_cases h0 : 0 < (β n).c
    · rw [hfr1 h0, upd_ne]
      intro e
      rw [e] at hb
      exact hb (hbn.reg h0)
    · rw [hfr2 h0]
  have hdx : DExt w fr w fr' := by
    refine ⟨fun _ _ _ h _ => h, fun b f' _ hf => ?_, Nat.le_refl _⟩
    by_cases h0 : 0 < (β n).c
    · rw [hfr1 h0] at hf
      by_cases e : b = (β n).b
      · rw [e]
        exact ⟨0, hbn.reg h0, by omega⟩
      · rw [upd_ne _ _ e] at hf
        exact ⟨f', hf, Nat.le_refl _⟩
    · rw [hfr2 h0] at hf
      exact ⟨f', hf, Nat.le_refl _⟩
  have hgm : ∀ m, (S.kills [n]).gen m = if m = n then S.gen n + 1 else S.gen m := by
    intro m
    show (match findU [kill S n] m with | some u => u.g | none => S.gen m) = _
    rw [findU_one]
    by_cases e : m = n
    · subst e; simp [kill]
    · have e' : ¬ n = m := fun x => e x.symm
      simp [e, e', kill]
  have hgen : (S.kills [n]).gen = upd S.gen n (S.gen n + 1) := by
    funext m
    rw [hgm]
    rfl
  have hbm : ∀ m, (S.kills [n]).box m = if m = n then [] else S.box m := by
    intro m
    show (match findU [kill S n] m with | some u => u.c | none => S.box m) = _
    rw [findU_one]
    by_cases e : m = n
    · subst e; simp [kill]
    · have e' : ¬ n = m := fun x => e x.symm
      simp [e, e', kill]
  have hg : GExt β S.gen (upd β n ⟨(β n).b, 0⟩) (S.kills [n]).gen := by
    rw [hgen]
    refine ⟨fun m => ?_, fun m e _ => ?_⟩
    · unfold upd; split
      · subst_vars; omega
      · omega
    · unfold upd at e ⊢
      split at e
      · subst_vars; omega
      · rename_i hne; rw [if_neg hne]
  have hold : ∀ l, (S.kills [n]).own l = true → S.own l = true ∧ vat a w (upd β n ⟨(β n).b, 0⟩) l = vat a w β l ∧ (S.kills [n]).at l = S.at l ∧ ∀ m k, l = .b m k → m ≠ n := by
    intro l hl
    cases l with
    | t i j =>
      have : (S.own (.t i j) && !false) = true := hl
      simp at this
      exact ⟨this, rfl, rfl, by simp⟩
    | b m k =>
      have : (match findU [kill S n] m with | some u => u.o k | none => S.own (.b m k) && !false) = true := hl
      rw [findU_one] at this
      by_cases e : m = n
      · subst e
        simp [kill] at this
      · have e' : ¬ n = m := fun x => e x.symm
        simp [kill, e'] at this
        refine ⟨this, by simp only [vat, upd_ne _ _ e], ?_, fun m' k' h => by cases h; exact e⟩
        show ((S.kills [n]).box m).getD k .any = _
        rw [hbm, if_neg e]
        rfl
  refine ⟨fr', upd β n ⟨(β n).b, 0⟩, ⟨h.defers, h.ntmps, h.os, h.tape, h.output, h.size, fun b f hf => ?_, fun b hb ht => ?_, fun b ht => ?_, fun i => (h.vals i).mono hdx hg, fun m hm => ?_, fun m m' hm hm' h1 h2 e => ?_, fun l hl => ?_, fun m k hl => ?_, fun l l' hl hl' hne b hb => ?_, h.ext.trans hg⟩, hdx, hg, fun m hm => upd_ne _ _ hm, fun h0 => by rw [hfr1 h0, upd_same], hfre, fun m hm h1 h2 => ?_⟩
  · by_cases h0 : 0 < (β n).c
    · rw [hfr1 h0] at hf
      by_cases e : b = (β n).b
      · rw [e]
        obtain ⟨c, E', hc', _⟩ := hbn.ex h0
        exact (Array.getElem?_eq_some_iff.1 hc').1
      · rw [upd_ne _ _ e] at hf
        exact h.frb b f hf
    · rw [hfr2 h0] at hf
      exact h.frb b f hf
  · refine ⟨(h.frame b hb ht).1, ?_⟩
    by_cases h0 : 0 < (β n).c
    · rw [hfr1 h0, upd_ne]
      · exact (h.frame b hb ht).2
      · intro e
        subst e
        rcases hbn.mine h0 with hm | hm
        · omega
        · exact ht hm
    · rw [hfr2 h0]
      exact (h.frame b hb ht).2
  · obtain ⟨hb, f0, f, e0, e, hle, hk⟩ := h.keep b ht
    by_cases h0 : 0 < (β n).c
    · by_cases eb : b = (β n).b
      · subst eb
        rw [hbn.reg h0] at e
        cases e
        exact ⟨hb, f0, (β n).c, e0, by rw [hfr1 h0, upd_same], by omega, hk⟩
      · exact ⟨hb, f0, f, e0, by rw [hfr1 h0, upd_ne _ _ eb]; exact e, hle, hk⟩
    · exact ⟨hb, f0, f, e0, by rw [hfr2 h0]; exact e, hle, hk⟩
  · rw [hbm]
    rw [hgm] at hm
    by_cases e : m = n
    · subst e
      rw [upd_same, if_pos rfl]
      exact ⟨by simp, fun h0 => absurd h0 (by simp), fun h0 => absurd h0 (by simp), fun h0 => absurd h0 (by simp)⟩
    · rw [if_neg e] at hm
      rw [upd_ne _ _ e, if_neg e]
      have hbx := h.boxes m hm
      refine ⟨hbx.len, fun h0 => ?_, fun h0 => ?_, hbx.mine⟩
      · obtain ⟨c, E', hc', hs', hp'⟩ := hbx.ex h0
        exact ⟨c, E', hc', hs', fun k u p hu hp => ⟨(hp' k u p hu hp).1.mono hdx hg, (hp' k u p hu hp).2⟩⟩
      · by_cases h3 : 0 < (β n).c
        · rw [hfr1 h3, upd_ne _ _ (hbne m e hm h0 h3)]
          exact hbx.reg h0
        · rw [hfr2 h3]
          exact hbx.reg h0
  · rw [hgm] at hm hm'
    by_cases e1 : m = n
    · subst e1
      rw [upd_same] at h1
      simp at h1
    · by_cases e2 : m' = n
      · subst e2
        rw [upd_same] at h2
        simp at h2
      · rw [upd_ne _ _ e1, upd_ne _ _ e2] at e
        rw [if_neg e1] at hm
        rw [if_neg e2] at hm'
        rw [upd_ne _ _ e1] at h1
        rw [upd_ne _ _ e2] at h2
        exact h.binj m m' hm hm' h1 h2 e
  · obtain ⟨ho, e1, e2, _⟩ := hold l hl
    rw [e1, e2]
    refine (h.own l ho).same fun b hb => ⟨rfl, hfre b fun e => ?_⟩
    obtain ⟨xs, hxs, hh⟩ := h.own l ho
    rcases hh with ⟨A, q, hq⟩ | ⟨b', c, cur, E2, sz, hq, h1, h2, h20, h3, h4, h5, h6, h7⟩
    · rw [hq] at hb
      cases A <;> simp [rowOf] at hb
    · rw [hq] at hb
      have eb : b' = b := by simpa [rowOf, h1] using hb
      rw [eb, e] at h6
      have hz : xs.length * sz = 0 := by simpa using h6.symm
      rcases Nat.mul_eq_zero.1 hz with h' | h' <;> omega
  · obtain ⟨ho, _, _, hne⟩ := hold _ hl
    have hmn := hne m k rfl
    rw [hgm, hbm, if_neg hmn, if_neg hmn]
    exact h.live m k ho
  · obtain ⟨ho, e1, _, _⟩ := hold l hl
    obtain ⟨ho', e1', _, _⟩ := hold l' hl'
    rw [e1] at hb
    rw [e1']
    exact h.oinj l l' ho ho' hne b hb
  · by_cases h3 : 0 < (β n).c
    · rw [hfr1 h3, upd_ne _ _ (hbne m hm h1 h2 h3)]
    · rw [hfr2 h3]

/-- Names that are let go, each at most once. -/
theorem frzC_rep (h : Sim N tch w0 fr0 S a w fr β) {c : PV} {x : DV} {ns : List Nat} (hf : frzC S c = some (x, ns)) {v : Value} (hv : PRep w fr β S.gen v c) {fr' : Nat → Option Nat} (hx : DExt w fr w fr')
    (hfr : ∀ n ∈ ns, 0 < S.gen n → 0 < (β n).c → ∃ f, fr' (β n).b = some f ∧ (S.box n).length ≤ f) : DRep w fr' v x ∧ ∀ n ∈ ns, 0 < S.gen n := by
  unfold frzC at hf
  split at hf
  · cases hf
    exact ⟨(inv_d hv).mono hx, by simp⟩
  · rename_i n g len sz ag
    simp only [Option.map_eq_some_iff] at hf
    obtain ⟨xs, hxs, he⟩ := hf
    cases he
    obtain ⟨A, cap, rfl, h0, hs0, hAA⟩ := inv_bsl hv
    have hg : g = S.gen n := by
      unfold thawed at hxs
      split at hxs
      · rename_i hc; exact hc.1
      · cases hxs
    have hgn : 0 < S.gen n := by rw [← hg]; exact h0
    obtain ⟨hA1, hlc, hcap⟩ := hAA hg
    obtain ⟨hyl, hyz, hle, _, us, hul, hur, huc⟩ := thawed_sound h hxs hgn hs0
    have hbl := (h.boxes n hgn).len
    refine ⟨?_, by simpa using hgn⟩
    rw [← hyl] at hlc hul huc ⊢
    refine .slice A cap sz (fun k => us.getD k undef) xs hlc hyz (fun hp => ?_) (fun k hk => ?_) (fun k p hp => ?_)
    · have hpos := Nat.mul_pos hp hs0
      have hc0 : 0 < (β n).c := by rw [← hyl] at hle; omega
      refine ⟨_, hA1 hc0, rfl, fun f hf k hk => ?_, fun k hk => ?_⟩
      · obtain ⟨f1, hf1, hle1⟩ := hfr n (by simp) hgn hc0
        rw [hf1] at hf
        cases hf
        rw [← hyl] at hle
        simp only
        omega
      · have := huc hp k hk
        simp only [Nat.zero_add]
        rw [this, List.getD_eq_getElem?_getD, List.getElem?_eq_getElem (by omega)]
        rfl
    · have hku : k < us.length := by omega
      simp only [List.getD_eq_getElem?_getD, List.getElem?_eq_getElem hku]
      exact hur.2.1 _ (List.getElem_mem hku)
    · have hku : k < us.length := by
        rw [hur.1]
        exact (List.getElem?_eq_some_iff.1 hp).1
      have := (hur.2.2 k us[k] p (List.getElem?_eq_getElem hku) hp).mono hx
      simpa [List.getD_eq_getElem?_getD, List.getElem?_eq_getElem hku] using this
  · cases hf

theorem frzL_rep (h : Sim N tch w0 fr0 S a w fr β) {fr' : Nat → Option Nat} (hx : DExt w fr w fr') : ∀ (cs : List PV) (ys : List DV) (ns : List Nat), frzL S cs = some (ys, ns) →
    (∀ n ∈ ns, 0 < S.gen n → 0 < (β n).c → ∃ f, fr' (β n).b = some f ∧ (S.box n).length ≤ f) → ∀ (vs : List Value), vs.length = cs.length → (∀ (k : Nat) (v : Value) (p : PV), vs[k]? = some v → cs[k]? = some p → PRep w fr β S.gen v p) →
    ys.length = cs.length ∧ (∀ (k : Nat) (v : Value) (y : DV), vs[k]? = some v → ys[k]? = some y → DRep w fr' v y) ∧ ∀ n ∈ ns, 0 < S.gen n
  | [], ys, ns, hf, _, vs, hl, _ => by
    simp [frzL] at hf
    obtain ⟨rfl, rfl⟩ := hf
    exact ⟨rfl, by simp, by simp⟩
  | c :: r, ys, ns, hf, hfr, vs, hl, hv => by
    simp only [frzL, Option.bind_eq_some_iff, Option.map_eq_some_iff] at hf
    obtain ⟨⟨x, n1⟩, hx1, ⟨ys', n2⟩, hx2, he⟩ := hf
    cases he
    cases vs with
    | nil => simp at hl
    | cons v vs =>
      obtain ⟨h1, h2⟩ := frzC_rep h hx1 (hv 0 v c rfl rfl) hx (fun n hn => hfr n (List.mem_append.2 (.inl hn)))
      obtain ⟨h3, h4, h5⟩ := frzL_rep h hx r ys' n2 hx2 (fun n hn => hfr n (List.mem_append.2 (.inr hn))) vs (by simpa using hl) (fun k u p hu hp => hv (k + 1) u p (by simpa using hu) (by simpa using hp))
      refine ⟨by simp [h3], fun k u y hu hy => ?_, fun n hn => ?_⟩
      · cases k with
        | zero => simp at hu hy; subst hu hy; exact h1
        | succ k => exact h4 k u y (by simpa using hu) (by simpa using hy)
      · rcases List.mem_append.1 hn with hn | hn
        · exact h2 n hn
        · exact h5 n hn

theorem frzV_rep (h : Sim N tch w0 fr0 S a w fr β) {c : PV} {x : DV} {ns : List Nat} (hf : frzV S c = some (x, ns)) {v : Value} (hv : PRep w fr β S.gen v c) {fr' : Nat → Option Nat} (hx : DExt w fr w fr')
    (hfr : ∀ n ∈ ns, 0 < S.gen n → 0 < (β n).c → ∃ f, fr' (β n).b = some f ∧ (S.box n).length ≤ f) : DRep w fr' v x ∧ ∀ n ∈ ns, 0 < S.gen n := by
  unfold frzV at hf
  split at hf
  · simp only [Option.map_eq_some_iff] at hf
    obtain ⟨⟨ys, ns'⟩, hl, he⟩ := hf
    cases he
    obtain ⟨vs, rfl, hvl, h1, hh⟩ := inv_pa hv
    obtain ⟨q1, q2, q3⟩ := frzL_rep h hx _ ys ns' hl hfr vs hvl hh
    exact ⟨.agg vs ys (by omega) h1 q2, q3⟩
  · exact frzC_rep h hf hv hx hfr

theorem frzC_gen {c : PV} {x : DV} {ns : List Nat} (hf : frzC S c = some (x, ns)) {v : Value} (hv : PRep w fr β S.gen v c) : ∀ n ∈ ns, 0 < S.gen n := by
  unfold frzC at hf
  split at hf
  · cases hf; simp
  · rename_i n g len sz ag
    simp only [Option.map_eq_some_iff] at hf
    obtain ⟨xs, hxs, he⟩ := hf
    cases he
    obtain ⟨A, cap, rfl, h0, hs0, hAA⟩ := inv_bsl hv
    unfold thawed at hxs
    split at hxs
    · rename_i hc
      have := hc.1
      simp
      omega
    · cases hxs
  · cases hf
theorem frzL_gen : ∀ (cs : List PV) (ys : List DV) (ns : List Nat), frzL S cs = some (ys, ns) → ∀ (vs : List Value), vs.length = cs.length → (∀ (k : Nat) (v : Value) (p : PV), vs[k]? = some v → cs[k]? = some p → PRep w fr β S.gen v p) → ∀ n ∈ ns, 0 < S.gen n
  | [], ys, ns, hf, vs, hl, _ => by
    simp [frzL] at hf
    obtain ⟨rfl, rfl⟩ := hf
    simp
  | c :: r, ys, ns, hf, vs, hl, hv => by
    simp only [frzL, Option.bind_eq_some_iff, Option.map_eq_some_iff] at hf
    obtain ⟨⟨x, n1⟩, hx1, ⟨ys', n2⟩, hx2, he⟩ := hf
    cases he
    cases vs with
    | nil => simp at hl
    | cons v vs =>
      intro n hn
      rcases List.mem_append.1 hn with hn | hn
      · exact frzC_gen hx1 (hv 0 v c rfl rfl) n hn
      · exact frzL_gen r ys' n2 hx2 vs (by simpa using hl) (fun k u p hu hp => hv (k + 1) u p (by simpa using hu) (by simpa using hp)) n hn
theorem frzV_gen {c : PV} {x : DV} {ns : List Nat} (hf : frzV S c = some (x, ns)) {v : Value} (hv : PRep w fr β S.gen v c) : ∀ n ∈ ns, 0 < S.gen n := by
  unfold frzV at hf
  split at hf
  · simp only [Option.map_eq_some_iff] at hf
    obtain ⟨⟨ys, ns'⟩, hl, he⟩ := hf
    cases he
    obtain ⟨vs, rfl, hvl, h1, hh⟩ := inv_pa hv
    exact frzL_gen _ ys ns' hl vs hvl hh
  · exact frzC_gen hf hv

theorem frzE_sound (h : Sim N tch w0 fr0 S a w fr β) {o : Oper} {r : PV} {E : Eff} (hd : ∀ d, o.dst = some d → d < N) (hf : frzE o S r = some E) {v : Value} (hv : PRep w fr β S.gen v r) :
    ∃ fr' β', Sim N tch w0 fr0 (E.apply S) (a.put o.dst v) w fr' β' := by
  unfold frzE at hf
  split at hf
  · rename_i x hx
    cases hf
    exact ⟨fr, β, h.put0 o.dst v _ hd (.d _ _ (frzV_rep h hx hv (DExt.refl w fr) (by simp)).1)⟩
  · rename_i x n hx
    cases hf
    have hgn : 0 < S.gen n := frzV_gen hx hv n (by simp)
    obtain ⟨fr', β', hS, hdx, hg, hb1, hb2, _, _⟩ := h.freeze1 hgn
    have hr := (frzV_rep h hx hv hdx (fun m hm hg0 h0 => by simp at hm; subst hm; exact ⟨_, hb2 h0, (h.boxes _ hg0).len⟩)).1
    have hS' := hS.put0 o.dst v (.d x) hd (.d _ _ hr)
    refine ⟨fr', β', ?_⟩
    have hEq : ((⟨o.dst, .d x, fun _ => false, fun _ => false, []⟩ : Eff).apply (S.kills [n])) = ((⟨o.dst, .d x, fun _ => false, fun _ => false, [kill S n]⟩ : Eff).apply S) := by
      simp only [Eff.apply, PS.kills, List.map_cons, List.map_nil, findU_nil]
      congr 1
      funext l
      cases l with
      | t i j => simp
      | b q k => by_cases e : (kill S n).n = q <;> simp [e]
    rw [hEq] at hS'
    exact hS'
  · cases hf

/-- The cells of a box that is put behind are one's own there as they were here. -/
theorem does_give (h : Sim N tch w0 fr0 S a w fr β) {o : Oper} {tr : List Nat} {args : Array Operand} {ts : Array TypeId} {E E' : Eff} {m : Nat} (hd : ∀ d, o.dst = some d → d < N) (ho : o.op = .call ⟨.builtin .append, args, ts⟩) (hs : srcBsl S args.toList = some m) (hbx : isBx tr o = true)
    (he : appEff P tr S o args.toList ts.toList = some E) (hg : giveOwn S m E = some E') : Does P N tch w0 fr0 (E'.apply S) o a w := by
  obtain ⟨_, h2⟩ := does_append (P := P) (tr := tr) h hd ho he
  obtain ⟨u, L, news, tail, old, s, x, rfl, hb, huc, hol, htl, hug, hclr, hds, hro, hX, w', fr', β', v, hr, hS, hcell, hβ, hheap⟩ := h2 hbx
  unfold giveOwn at hg
  rw [hb] at hg
  simp only at hg
  split at hg
  · rename_i hc
    obtain ⟨hne, hle⟩ := hc
    cases hg
    have hxs : ∃ g len sz ag, S.ev x = .bsl m g len sz ag ∧ (S.box m).length = len * sz := by
      unfold srcBsl at hs
      simp only [List.toList_toArray] at hs
      split at hs
      · rename_i m' g len sz ag hp
        split at hs
        · rename_i hq
          cases hs
          exact ⟨g, len, sz, ag, hp, hq.1⟩
        · cases hs
      · cases hs
    obtain ⟨g, len, sz, ag, hp, hbl⟩ := hxs
    obtain ⟨hgm, htail, hcells⟩ := hX m g len sz ag hp
    have htail := htail hbl
    have hbase : u.c.length - (S.box m).length = L := by
      rw [huc, htail, List.length_append, hol]
      omega
    let own' : Loc → Bool := fun l => match l with
      | .t i j => (E.apply S).own (.t i j)
      | .b n k => if n = u.n then (if k < L then u.o k else S.own (.b m (k - L))) else if n = m then false else (E.apply S).own (.b n k)
    have hgenm : (E.apply S).gen m = S.gen m ∧ (E.apply S).box m = S.box m := by
      have e : ¬ u.n = m := fun e => hne e.symm
      constructor
      · show (match findU E.bx m with | some u => u.g | none => S.gen m) = _
        rw [hb, findU_one, if_neg e]
      · show (match findU E.bx m with | some u => u.c | none => S.box m) = _
        rw [hb, findU_one, if_neg e]
    have hgenu : (E.apply S).gen u.n = u.g ∧ (E.apply S).box u.n = u.c := by
      constructor
      · show (match findU E.bx u.n with | some u => u.g | none => S.gen u.n) = _
        rw [hb, findU_one, if_pos rfl]
      · show (match findU E.bx u.n with | some u => u.c | none => S.box u.n) = _
        rw [hb, findU_one, if_pos rfl]
    have hownm : ∀ k, (E.apply S).own (.b m k) = S.own (.b m k) := by
      intro k
      have e : ¬ u.n = m := fun e => hne e.symm
      show (match findU E.bx m with | some u => u.o k | none => S.own (.b m k) && !E.clr (.b m k)) = _
      rw [hb, findU_one, if_neg e]
      simp [hclr]
    have hownu : ∀ k, (E.apply S).own (.b u.n k) = u.o k := by
      intro k
      show (match findU E.bx u.n with | some u => u.o k | none => S.own (.b u.n k) && !E.clr (.b u.n k)) = _
      rw [hb, findU_one, if_pos rfl]
    have hEq : ((⟨E.dst, E.r, E.ro, E.clr, [⟨u.n, u.g, u.c, fun k => if k < u.c.length - (S.box m).length then u.o k else S.own (.b m (k - (u.c.length - (S.box m).length)))⟩, ⟨m, S.gen m, S.box m, fun _ => false⟩]⟩ : Eff).apply S) = { E.apply S with own := own' } := by
      rw [hbase]
      have e : ¬ u.n = m := fun e => hne e.symm
      simp only [Eff.apply, PS.mk.injEq, true_and, and_true]
      refine ⟨?_, ?_, ?_⟩
      · funext n
        simp only [findU, hb]
        by_cases e1 : u.n = n
        · simp [e1]
        · by_cases e2 : m = n
          · subst e2; simp [e1]
          · simp [e1, e2]
      · funext n
        simp only [findU, hb]
        by_cases e1 : u.n = n
        · simp [e1]
        · by_cases e2 : m = n
          · subst e2; simp [e1]
          · simp [e1, e2]
      · funext l
        cases l with
        | t i j => rfl
        | b n k =>
          simp only [findU, own', Eff.apply, hb]
          by_cases e1 : u.n = n
          · subst e1; simp
          · have e1' : ¬ n = u.n := fun e => e1 e.symm
            by_cases e2 : m = n
            · subst e2; simp [e1, e1']
            · have e2' : ¬ n = m := fun e => e2 e.symm
              simp [e1, e1', e2, e2']
    have hgm0 : ∀ k, S.own (.b m k) = true → 0 < S.gen m ∧ k < (S.box m).length := fun k hk => h.live m k hk
    rw [hEq]
    let src : Loc → Loc := fun l => match l with | .t i j => .t i j | .b n k => if n = u.n ∧ L ≤ k then .b m (k - L) else .b n k
    have hsrc1 : ∀ k, L ≤ k → src (.b u.n k) = .b m (k - L) := fun k hk => if_pos ⟨rfl, hk⟩
    have hsrc2 : ∀ n k, ¬ (n = u.n ∧ L ≤ k) → src (.b n k) = .b n k := fun n k hk => if_neg hk
    refine ⟨w', fr', β', .inl ⟨v, hr, hS.reown own' src (fun l hl => ?_) (fun l l' hl hl' he => ?_) (fun n k hl => ?_)⟩⟩
    · cases l with
      | t i j => exact ⟨hl, rfl, rfl⟩
      | b n k =>
        simp only [own'] at hl
        by_cases e1 : n = u.n
        · subst e1
          rw [if_pos rfl] at hl
          by_cases hk : k < L
          · rw [if_pos hk] at hl
            rw [hsrc2 _ _ (by omega)]
            exact ⟨by rw [hownu]; exact hl, rfl, rfl⟩
          · rw [if_neg hk] at hl
            rw [hsrc1 k (by omega)]
            obtain ⟨hg0, hkb⟩ := hgm0 _ hl
            refine ⟨by rw [hownm]; exact hl, ?_, ?_⟩
            · simp only [PS.at, hgenu.2, hgenm.2, huc, htail]
              rw [List.getD_eq_getElem?_getD, List.getD_eq_getElem?_getD, List.getElem?_append_right (by omega), hol]
            · have hln : k - L < news.length := by rw [← htl, htail]; exact hkb
              have hl0 : 0 < len := by
                rcases Nat.eq_zero_or_pos len with e | e
                · subst e; omega
                · exact e
              have hBm := h.boxes m hg0
              obtain ⟨cs, E0, hcs, _⟩ := hBm.ex (hBm.at hkb)
              have hbs := (Array.getElem?_eq_some_iff.1 hcs).1
              have hsame : w'.heap[(β m).b]? = w.heap[(β m).b]? := hheap _ hbs fun q1 q2 e => hne (h.binj m u.n hg0 q1 (hBm.at hkb) q2 e)
              have e2 : w'.cell? ⟨(β' m).b, k - L, none⟩ = news[k - L]? := by
                rw [hβ m hne, World.cell?_of_block (w := w) hsame]
                exact hcells hl0 (k - L) (by omega)
              simp only [vat]
              rw [e2, List.getElem?_eq_getElem hln]
              have := hcell (k - L) news[k - L] (List.getElem?_eq_getElem hln)
              rw [show L + (k - L) = k by omega] at this
              rw [this]
        · rw [if_neg e1] at hl
          rw [hsrc2 _ _ (fun q => e1 q.1)]
          split at hl
          · cases hl
          · exact ⟨hl, rfl, rfl⟩
    · cases l with
      | t i j =>
        cases l' with
        | t i' j' => exact he
        | b n' k' =>
          by_cases e2 : n' = u.n ∧ L ≤ k'
          · obtain ⟨rfl, q2⟩ := e2
            rw [hsrc1 _ q2] at he
            cases he
          · rw [hsrc2 _ _ e2] at he
            cases he
      | b n k =>
        cases l' with
        | t i' j' =>
          by_cases e2 : n = u.n ∧ L ≤ k
          · obtain ⟨rfl, q2⟩ := e2
            rw [hsrc1 _ q2] at he
            cases he
          · rw [hsrc2 _ _ e2] at he
            cases he
        | b n' k' =>
          simp only [own'] at hl hl'
          by_cases e1 : n = u.n ∧ L ≤ k <;> by_cases e2 : n' = u.n ∧ L ≤ k'
          · obtain ⟨rfl, q1⟩ := e1
            obtain ⟨rfl, q2⟩ := e2
            rw [hsrc1 _ q1, hsrc1 _ q2] at he
            have : k - L = k' - L := by injection he
            have : k = k' := by omega
            rw [this]
          · obtain ⟨rfl, q1⟩ := e1
            rw [hsrc1 _ q1, hsrc2 _ _ e2] at he
            injection he with q1 q2
            subst q1
            rw [if_neg hne] at hl'
            simp at hl'
          · obtain ⟨rfl, q1⟩ := e2
            rw [hsrc1 _ q1, hsrc2 _ _ e1] at he
            injection he with q1 q2
            subst q1
            rw [if_neg hne] at hl
            simp at hl
          · rw [hsrc2 _ _ e1, hsrc2 _ _ e2] at he
            exact he
    · simp only [own'] at hl
      by_cases e1 : n = u.n
      · subst e1
        rw [if_pos rfl] at hl
        rw [hgenu.1, hgenu.2]
        refine ⟨hug, ?_⟩
        rw [huc, List.length_append, hol, htail]
        split at hl
        · have := hS.live u.n k (by rw [hownu]; exact hl)
          rw [hgenu.2, huc, List.length_append, hol, htail] at this
          exact this.2
        · have := (hgm0 _ hl).2
          omega
      · rw [if_neg e1] at hl
        split at hl
        · cases hl
        · exact hS.live n k hl
  · cases hg

theorem does_value (h : Sim N tch w0 fr0 S a w fr β) {o : Oper} {r : PV × Bool} (hd : ∀ d, o.dst = some d → d < N) (he : effV P S o = some r) : Does P N tch w0 fr0 ((⟨o.dst, r.1, fun _ => r.2, fun _ => false, []⟩ : Eff).apply S) o a w := by
  obtain ⟨r, b⟩ := r
  obtain ⟨v, w', fr', hrun, hfx, hr, hb⟩ := effV_sound h he
  have hS := h.fresh hfx
  refine ⟨w', fr', β, .inl ⟨v, hrun, ?_⟩⟩
  cases b with
  | false => exact hS.put0 o.dst v r hd hr
  | true =>
    obtain ⟨A, n, xs, rfl, rfl⟩ := hb rfl
    exact hS.put1 o.dst A n xs hd (inv_d hr)

/-- A struct whose first cell, and whose nil cells, are one's own. -/
theorem does_buildOw (h : Sim N tch w0 fr0 S a w fr β) {o : Oper} {t : TypeId} {ps : Array (Nat × Operand)} {r : PV} {b : Bool} (hd : ∀ d, o.dst = some d → d < N) (ho : o.op = .build t ps) (he : effV P S o = some (r, b)) :
    Does P N tch w0 fr0 ((match buildOw P S t ps.toList with | some s => (⟨o.dst, r, fun j => (j == 0 && S.own (.t s 0)) || nilAt P t ps.toList j, slotOf s, []⟩ : Eff) | none => ⟨o.dst, r, fun j => nilAt P t ps.toList j, fun _ => false, []⟩).apply S) o a w := by
  obtain ⟨us, hrun, hr, _, hk, hn⟩ := build_run h ho he
  have hnil : ∀ j, nilAt P t ps.toList j = true → vpart (.agg us.toArray) j = .slice none 0 0 ∧ r.part j = .d (.slice []) := by
    intro j hj
    refine ⟨?_, (hn j hj).2⟩
    simp only [vpart]
    rw [Array.getD_eq_getD_getElem?, List.getElem?_toArray, (hn j hj).1]
    rfl
  have hexec : (execOp a.eval o).run P w = .ok (.value (.agg us.toArray)) w := by simp [execOp, ho, hrun]
  split
  · rename_i s hs
    obtain ⟨hu0, hr0⟩ := hk s hs
    have hv0 : vpart (.agg us.toArray) 0 = a.tmps.getD s undef := by
      simp only [vpart]
      rw [Array.getD_eq_getD_getElem?, List.getElem?_toArray, hu0]
      rfl
    have hsl : ∃ xs, S.t s = .d (.slice xs) := by
      unfold buildOw at hs
      split at hs
      · split at hs
        · split at hs
          · rename_i hq
            cases hs
            exact isSl_at hq.2.2.2
          · cases hs
        · cases hs
      · cases hs
    obtain ⟨xs, hxs⟩ := hsl
    have hvv : vpart (a.tmps.getD s undef) 0 = a.tmps.getD s undef := by
      have hv := h.vals s
      rw [hxs] at hv
      obtain ⟨A, cap, sz, us0, ev, _⟩ := slice_inv (inv_d hv)
      rw [ev]
      rfl
    have hpp : (S.t s).part 0 = S.t s := by rw [hxs]; rfl
    have hcase : ∀ j, ((j == 0 && S.own (.t s 0)) || nilAt P t ps.toList j) = true → (j = 0 ∧ S.own (.t s 0) = true) ∨ (vpart (.agg us.toArray) j = .slice none 0 0 ∧ r.part j = .d (.slice [])) := by
      intro j hj
      simp only [Bool.or_eq_true, Bool.and_eq_true, beq_iff_eq] at hj
      rcases hj with hj | hj
      · exact .inl hj
      · exact .inr (hnil j hj)
    have hnr : ∀ b, rowOf (.slice none 0 0) ≠ some b := fun b => by simp [rowOf]
    refine ⟨w, fr, β, .inl ⟨.agg us.toArray, hexec, ?_⟩⟩
    refine h.putv ⟨o.dst, r, fun j => (j == 0 && S.own (.t s 0)) || nilAt P t ps.toList j, slotOf s, []⟩ rfl _ hd hr (fun j hj => ?_) (fun j hj b hb l hl hc => ?_) (fun j j' hj hj' hne b hb => ?_)
    · rcases hcase j hj with ⟨rfl, hj0⟩ | ⟨e1, e2⟩
      · have := h.own _ hj0
        simp only [vat, PS.at, hvv, hpp] at this
        rw [hv0, hr0]
        exact this
      · rw [e1, e2]
        exact ownOk_nil
    · rcases hcase j hj with ⟨rfl, hj0⟩ | ⟨e1, e2⟩
      · rw [hv0] at hb
        refine h.oinj (.t s 0) l hj0 hl (fun e => ?_) b (by simp only [vat, hvv]; exact hb)
        subst e
        simp [slotOf] at hc
      · rw [e1] at hb
        exact absurd hb (hnr b)
    · rcases hcase j hj with ⟨rfl, hj⟩ | ⟨e1, e2⟩
      · rcases hcase j' hj' with ⟨rfl, hj2⟩ | ⟨e1', e2'⟩
        · exact absurd rfl hne
        · rw [e1']
          exact hnr b
      · rw [e1] at hb
        exact absurd hb (hnr b)
  · have hnr : ∀ b, rowOf (.slice none 0 0) ≠ some b := fun b => by simp [rowOf]
    refine ⟨w, fr, β, .inl ⟨.agg us.toArray, hexec, ?_⟩⟩
    refine h.putv ⟨o.dst, r, fun j => nilAt P t ps.toList j, fun _ => false, []⟩ rfl _ hd hr (fun j hj => ?_) (fun j hj b hb l hl hc => ?_) (fun j j' hj hj' hne b hb => ?_)
    · obtain ⟨e1, e2⟩ := hnil j hj
      show OwnOk tch.tch w0 w fr (vpart (.agg us.toArray) j) (r.part j)
      rw [e1, e2]
      exact ownOk_nil
    · rw [(hnil j hj).1] at hb
      exact absurd hb (hnr b)
    · rw [(hnil j hj).1] at hb
      exact absurd hb (hnr b)

theorem pcells_part {p : PV} {cs : List PV} (hf : ∀ f, p ≠ .fn f []) (h : pcells p = some cs) {k : Nat} (hk : k < cs.length) : some (p.part k) = cs[k]? := by
  cases p with
  | d x =>
    cases x with
    | agg xs =>
      simp [pcells, cells] at h
      subst h
      simp at hk
      simp [PV.part, hk, List.getD_eq_getElem?_getD]
    | _ =>
      simp [pcells, cells] at h
      subst h
      simp at hk
      subst hk
      rfl
  | pa xs =>
    simp [pcells] at h
    subst h
    simp [PV.part, hk, List.getD_eq_getElem?_getD]
  | fn f c =>
    cases c with
    | nil => exact absurd rfl (hf f)
    | cons c0 cr =>
      simp [pcells] at h
      subst h
      simp at hk
      subst hk
      rfl
  | tup vs => simp [pcells] at h
  | any => simp [pcells] at h
  | _ =>
    simp [pcells] at h
    subst h
    simp at hk
    subst hk
    rfl
/-- The cells of a value, and its parts. -/
theorem own_part (h : Sim N tch w0 fr0 S a w fr β) {s k : Nat} (ho : S.own (.t s k) = true) {cs : List PV} (hc : pcells (S.t s) = some cs) (hk : k < cs.length) (hks : (∀ c, S.t s ≠ .d (.agg c)) → (∀ c, S.t s ≠ .pa c) → k = 0) :
    (a.tmps.getD s undef).cells[k]? = some (vat a w β (.t s k)) ∧ cs[k]? = some (S.at (.t s k)) := by
  refine ⟨?_, (pcells_part (fun f e => by
    obtain ⟨xs, e1, _⟩ := h.own _ ho
    simp only [PS.at, e, PV.part] at e1
    cases e1) hc hk).symm⟩
  have hv := h.vals s
  obtain ⟨hl, _⟩ := pcells_rep hv hc
  obtain ⟨xs, e, hh⟩ := h.own _ ho
  simp only [vat] at hh ⊢
  generalize a.tmps.getD s undef = v at hv hl hh
  cases v with
  | agg vs =>
    simp only [Value.cells] at hl ⊢
    simp only [vpart, Array.getD_eq_getD_getElem?]
    have : k < vs.size := by omega
    simp [this]
  | slice A n c =>
    have hk0 : k = 0 := by
      simp [Value.cells] at hl
      omega
    subst hk0
    rfl
  | tuple vs =>
    exfalso
    generalize hp : S.t s = p at hv hc
    cases hv with
    | d _ x hx => cases hx with | opq _ hb h1 => simp [one, Value.oneCell'] at h1
    | tup vs ps hl hh => simp [pcells] at hc
    | any => simp [pcells] at hc
  | _ =>
    simp only [vpart] at hh
    rcases hh with ⟨_, _, e⟩ | ⟨_, _, _, _, _, e, _⟩ <;> cases e

/-- What is one's own in a slot is so in the cells of a new box. -/
theorem Sim.moveIn (h : Sim N tch w0 fr0 S a w fr β) {d s g : Nat} {cs : List PV} {v : PV} {u : Value} {w' : World} {fr' : Nat → Option Nat} {nb : Nat} {us : Array Value} (hd' : d < a.tmps.size) (hsd : s ≠ d) (hg0 : 0 < g) (hc : pcells (S.t s) = some cs)
    (hcell : ∀ k, w'.cell? ⟨nb, k, none⟩ = us[k]?) (hus : us = (a.tmps.getD s undef).cells)
    (hS : Sim N tch w0 fr0 ((⟨some d, v, fun _ => false, fun _ => false, [⟨S.fo + d, g, cs, fun _ => false⟩]⟩ : Eff).apply S) (a.put (some d) u) w' fr' (upd β (S.fo + d) ⟨nb, us.size⟩)) :
    Sim N tch w0 fr0 ((⟨some d, v, fun _ => false, slotOf s, [⟨S.fo + d, g, cs, fun k => decide (k < cs.length) && S.own (.t s k)⟩]⟩ : Eff).apply S) (a.put (some d) u) w' fr' (upd β (S.fo + d) ⟨nb, us.size⟩) := by
  let E0 : Eff := ⟨some d, v, fun _ => false, fun _ => false, [⟨S.fo + d, g, cs, fun _ => false⟩]⟩
  let own' : Loc → Bool := fun l => match l with
    | .t i j => if d = i then false else S.own (.t i j) && !(i == s)
    | .b n k => if n = S.fo + d then decide (k < cs.length) && S.own (.t s k) else S.own (.b n k)
  have hEq : ((⟨some d, v, fun _ => false, slotOf s, [⟨S.fo + d, g, cs, fun k => decide (k < cs.length) && S.own (.t s k)⟩]⟩ : Eff).apply S) = { E0.apply S with own := own' } := by
    simp only [Eff.apply, E0, PS.mk.injEq, true_and, and_true]
    refine ⟨?_, ?_, ?_⟩
    · funext n
      simp only [findU]
      by_cases e1 : S.fo + d = n <;> simp [e1]
    · funext n
      simp only [findU]
      by_cases e1 : S.fo + d = n <;> simp [e1]
    · funext l
      cases l with
      | t i j =>
        simp only [own', slotOf, Option.some.injEq]
      | b n k =>
        simp only [findU, own', slotOf]
        by_cases e1 : S.fo + d = n
        · simp [e1]
        · have e1' : ¬ n = S.fo + d := fun e => e1 e.symm
          simp [e1, e1']
  rw [hEq]
  have hown0 : ∀ i j, d ≠ i → (E0.apply S).own (.t i j) = S.own (.t i j) := by
    intro i j hi
    show (if (some d : Option Nat) = some i then false else S.own (.t i j) && !false) = _
    rw [if_neg (by simpa using hi)]
    simp
  have hownb : ∀ n k, n ≠ S.fo + d → (E0.apply S).own (.b n k) = S.own (.b n k) := by
    intro n k hn
    show (match findU [⟨S.fo + d, g, cs, fun _ => false⟩] n with | some u => u.o k | none => S.own (.b n k) && !false) = _
    rw [findU_one, if_neg (fun e => hn e.symm)]
    simp
  have hbx : (E0.apply S).box (S.fo + d) = cs ∧ (E0.apply S).gen (S.fo + d) = g := by
    constructor
    · show (match findU [⟨S.fo + d, g, cs, fun _ => false⟩] (S.fo + d) with | some u => u.c | none => _) = _
      rw [findU_one, if_pos rfl]
    · show (match findU [⟨S.fo + d, g, cs, fun _ => false⟩] (S.fo + d) with | some u => u.g | none => _) = _
      rw [findU_one, if_pos rfl]
  let src : Loc → Loc := fun l => match l with | .t i j => .t i j | .b n k => if n = S.fo + d then .t s k else .b n k
  have hsrc1 : ∀ k, src (.b (S.fo + d) k) = .t s k := fun k => if_pos rfl
  have hsrc2 : ∀ n k, n ≠ S.fo + d → src (.b n k) = .b n k := fun n k hk => if_neg hk
  have hzero : (∀ c, S.t s ≠ .d (.agg c)) → (∀ c, S.t s ≠ .pa c) → ∀ k, k < cs.length → k = 0 := by
    intro h1 h2 k hk
    have : cs.length = 1 := by
      generalize S.t s = p at hc h1 h2
      cases p with
      | d x => cases x <;> first | exact absurd rfl (h1 _) | (simp [pcells, cells] at hc; subst hc; rfl)
      | pa c => exact absurd rfl (h2 _)
      | fn f c => cases c <;> (simp [pcells] at hc; subst hc; rfl)
      | tup _ => simp [pcells] at hc
      | any => simp [pcells] at hc
      | _ => simp [pcells] at hc; subst hc; rfl
    omega
  refine hS.reown own' src (fun l hl => ?_) (fun l l' hl hl' hle => ?_) (fun n k hl => ?_)
  · cases l with
    | t i j =>
      simp only [own'] at hl
      split at hl
      · cases hl
      · rename_i hne
        exact ⟨by show (E0.apply S).own (.t i j) = true; rw [hown0 i j hne]; exact (Bool.and_eq_true_iff.1 hl).1, rfl, rfl⟩
    | b n k =>
      simp only [own'] at hl
      by_cases e1 : n = S.fo + d
      · subst e1
        rw [if_pos rfl] at hl
        simp only [Bool.and_eq_true, decide_eq_true_eq] at hl
        rw [hsrc1]
        obtain ⟨q1, q2⟩ := own_part h hl.2 hc hl.1 (fun h1 h2 => hzero h1 h2 k hl.1)
        refine ⟨by show (E0.apply S).own (.t s k) = true; rw [hown0 s k (fun e => hsd e.symm)]; exact hl.2, ?_, ?_⟩
        · have e1 : (E0.apply S).at (.b (S.fo + d) k) = cs.getD k .any := by
            simp only [PS.at, hbx.1]
          have e2 : (E0.apply S).at (.t s k) = S.at (.t s k) := by
            simp only [PS.at]
            congr 1
            exact upd_ne _ _ hsd
          show (E0.apply S).at (.b (S.fo + d) k) = (E0.apply S).at (.t s k)
          rw [e1, e2, List.getD_eq_getElem?_getD, q2]
          rfl
        · simp only [vat, put_getD hd', if_neg hsd, upd_same]
          rw [hcell]
          simp only [vat] at q1
          rw [hus, q1]
          rfl
      · rw [if_neg e1] at hl
        rw [hsrc2 _ _ e1]
        exact ⟨by show (E0.apply S).own (.b n k) = true; rw [hownb n k e1]; exact hl, rfl, rfl⟩
  · cases l with
    | t i j =>
      cases l' with
      | t i' j' => exact hle
      | b n' k' =>
        by_cases e1 : n' = S.fo + d
        · subst e1
          rw [hsrc1] at hle
          injection hle with q1 q2
          simp only [own'] at hl
          subst q1
          split at hl
          · cases hl
          · simp at hl
        · rw [hsrc2 _ _ e1] at hle
          cases hle
    | b n k =>
      by_cases e1 : n = S.fo + d
      · subst e1
        rw [hsrc1] at hle
        cases l' with
        | t i' j' =>
          injection hle with q1 q2
          simp only [own'] at hl'
          subst q1
          split at hl'
          · cases hl'
          · simp at hl'
        | b n' k' =>
          by_cases e2 : n' = S.fo + d
          · subst e2
            rw [hsrc1] at hle
            injection hle with q1 q2
            rw [q2]
          · rw [hsrc2 _ _ e2] at hle
            cases hle
      · rw [hsrc2 _ _ e1] at hle
        cases l' with
        | t i' j' => cases hle
        | b n' k' =>
          by_cases e2 : n' = S.fo + d
          · subst e2
            rw [hsrc1] at hle
            cases hle
          · rw [hsrc2 _ _ e2] at hle
            exact hle
  · simp only [own'] at hl
    by_cases e1 : n = S.fo + d
    · subst e1
      rw [if_pos rfl] at hl
      simp only [Bool.and_eq_true, decide_eq_true_eq] at hl
      show 0 < (E0.apply S).gen (S.fo + d) ∧ k < ((E0.apply S).box (S.fo + d)).length
      rw [hbx.1, hbx.2]
      exact ⟨hg0, hl.1⟩
    · rw [if_neg e1] at hl
      exact hS.live n k (by show (E0.apply S).own (.b n k) = true; rw [hownb n k e1]; exact hl)

/-- A slice of one element, as a box. -/
theorem does_bsl1 (h : Sim N tch w0 fr0 S a w fr β) {o : Oper} {t : TypeId} {len : Nat} {ps : Array (Nat × Operand)} {E : Eff} (hd : ∀ d, o.dst = some d → d < N) (ho : o.op = .buildSlice t len ps) (he : bslEff P S o t len ps.toList = some E) :
    Does P N tch w0 fr0 (E.apply S) o a w := by
  unfold bslEff at he
  split at he
  · rename_i d e i s hdd ht hps
    split at he
    · rename_i cs hc
      split at he
      · rename_i hq
        obtain ⟨rfl, rfl, hcl, hpos, hbig, hzs, hag, hsd⟩ := hq
        cases he
        obtain rfl : ps = #[(0, .tmp s)] := by rw [← Array.toArray_toList (xs := ps), hps]
        obtain ⟨z, hz⟩ := Option.isSome_iff_exists.1 hzs
        obtain ⟨hl, hrep⟩ := pcells_rep (h.vals s) hc
        have hvs : (a.tmps.getD s undef).cells.size = szT P e := by rw [hl, hcl]
        have hrun := buildSlice1_run (w := w) ht hpos hbig hz hvs
        have hfx : Fresh w fr (w.alloc (.cells (a.tmps.getD s undef).cells.toList.toArray e)) (upd fr w.heap.size (some 0)) := by
          refine ⟨rfl, rfl, rfl, by simp, fun b hb => Below.heap_alloc _ _ _ hb, fun b hb => upd_ne _ _ (by omega), fun b f hf => ?_⟩
          by_cases e1 : b = w.heap.size
          · subst e1
            simp
          · rw [upd_ne _ _ e1] at hf
            have := h.frb b f hf
            simp
            omega
        have hS := h.newBox (hd d hdd) hfx (Nat.le_refl _) _ e (heap_alloc_new' w _) cs (fun _ => false) (fun _ => false) (.bsl (S.fo + d) (S.gen (S.fo + d) + 1) 1 (szT P e) (aggT P e == some true)) (.slice (some ⟨w.heap.size, 0, none⟩) 1 1) (n := S.fo + d)
          (by rw [hcl, ← hvs]; simp only [List.size_toArray, Array.length_toList]; omega) (fun k u p hu hp => hrep k u p (by simpa using hu) hp) (by simp) (.inr ⟨1, szT P e, 1, _, hpos, Nat.le_refl _, by rw [← hvs]; simp only [List.size_toArray, Array.length_toList]; omega, rfl, rfl⟩)
        refine ⟨w.alloc (.cells (a.tmps.getD s undef).cells.toList.toArray e), upd fr w.heap.size (some 0), upd β (S.fo + d) ⟨w.heap.size, (a.tmps.getD s undef).cells.toList.toArray.size⟩, .inl ⟨.slice (some ⟨w.heap.size, 0, none⟩) 1 1, ?_, ?_⟩⟩
        · simp only [execOp, ho]
          have : (#[((0 : Nat), Operand.tmp s)].map fun (x : Nat × Operand) => (x.1, a.eval x.2)) = #[(0, a.tmps.getD s undef)] := by simp [Act.eval]
          simp only [this, Sem.run_bind, hrun, Result.andThen_ok, Sem.run_pure]
        · rw [hdd]
          have hd' : d < a.tmps.size := by rw [h.ntmps]; exact hd d hdd
          exact h.moveIn hd' hsd (by omega) hc (fun k => cell_alloc_new w _ e k) (by simp) hS
      · cases he
    · cases he
  · cases he

/-- A box whose cells are one's own as they were in a slot. -/
theorem does_boxOw (h : Sim N tch w0 fr0 S a w fr β) {o : Oper} {e d : Nat} {x : Operand} {cs : List PV} {E : Eff} (hd : d < N) (hdst : o.dst = some d) (ho : o.op = .box e x) (hc : pcells (S.ev x) = some cs) (he : boxOw S d x cs = some E) :
    Does P N tch w0 fr0 (E.apply S) o a w := by
  unfold boxOw at he
  split at he
  · rename_i s
    split at he
    · rename_i hsd
      cases he
      obtain ⟨e1, e2⟩ := pcells_rep (h.ev (.tmp s)) hc
      have hS := h.newBox hd (freshNew h _) (Nat.le_refl _) (a.eval (.tmp s)).cells e (heap_alloc_new' _ _) cs (fun _ => false) (fun _ => false) (.ptr (S.fo + d) (S.gen (S.fo + d) + 1) 0) (.pointer (some ⟨w.heap.size, 0, none⟩)) (n := S.fo + d) (by omega) e2 (by simp) (.inl ⟨rfl, rfl⟩)
      refine ⟨w.alloc (.cells (a.eval (.tmp s)).cells e), upd fr w.heap.size (some 0), upd β (S.fo + d) ⟨w.heap.size, (a.eval (.tmp s)).cells.size⟩, .inl ⟨.pointer (some ⟨w.heap.size, 0, none⟩), ?_, ?_⟩⟩
      · simp [execOp, ho, Instr.box, newVar_run]
      · rw [hdst]
        exact h.moveIn (by rw [h.ntmps]; exact hd) hsd (by omega) hc (fun k => cell_alloc_new w _ e k) rfl hS
    · cases he
  · cases he

/-- A struct whose nil cell comes to be an empty slice that is a box. -/
theorem does_buildNb (h : Sim N tch w0 fr0 S a w fr β) {o : Oper} {t : TypeId} {ps : Array (Nat × Operand)} {q : Option (Nat × Nat × Bool)} {E : Eff} (hd : ∀ d, o.dst = some d → d < N) (ho : o.op = .build t ps) (he : nbEff P S o t ps.toList q = some E) :
    Does P N tch w0 fr0 (E.apply S) o a w := by
  unfold nbEff at he
  split at he
  · rename_i d c sz ag r hdd hv
    split at he
    · rename_i cs hc
      split at he
      · rename_i hq
        obtain ⟨hnc, hsz, hcl⟩ := hq
        cases he
        obtain ⟨r, b⟩ := r
        obtain ⟨us, hrun, hr, _, _, hn⟩ := build_run h ho hv
        obtain ⟨hul, hrep⟩ := pcells_rep hr hc
        have hus : (Value.agg us.toArray).cells = us.toArray := rfl
        rw [hus] at hul hrep
        have hul : us.length = cs.length := by simpa using hul
        have hg : GExt β S.gen (upd β (S.fo + d) ⟨0, 0⟩) (upd S.gen (S.fo + d) (S.gen (S.fo + d) + 1)) := by
          refine ⟨fun m => ?_, fun m e _ => ?_⟩
          · unfold upd; split
            · subst_vars; omega
            · omega
          · unfold upd at e ⊢
            split at e
            · subst_vars; omega
            · rename_i hne; rw [if_neg hne]
        have hpart : ∀ j, nilAt P t ps.toList j = true → j < cs.length ∧ cs[j]? = some (.d (.slice [])) := by
          intro j hj
          obtain ⟨q1, q2⟩ := hn j hj
          have hjl : j < cs.length := by
            have := (List.getElem?_eq_some_iff.1 q1).1
            omega
          refine ⟨hjl, ?_⟩
          have h1 := pcells_part (p := r) (fun f e => by rw [e] at q2; simp [PV.part] at q2) hc hjl
          rw [← h1, q2]
        refine ⟨w, fr, upd β (S.fo + d) ⟨0, 0⟩, .inl ⟨.agg us.toArray, by simp [execOp, ho, hrun], ?_⟩⟩
        rw [hdd]
        refine h.bumpR (hd d hdd) ⟨0, 0⟩ [] (fun _ => false) (fun _ => false) _ _ _ (.inr ⟨rfl, rfl, fun _ => rfl⟩) (.pa _ _ (by simp [hul]) (fun u hu => ?_) (fun k u p hu hp => ?_)) (fun j hj => ?_)
        · obtain ⟨k, hk⟩ := List.mem_iff_getElem?.1 hu
          have hkl : k < cs.length := by have := (List.getElem?_eq_some_iff.1 hk).1; omega
          exact (hrep k u _ (by simpa using hk) (List.getElem?_eq_getElem hkl)).2
        · rw [List.getElem?_set] at hp
          split at hp
          · rename_i e
            subst e
            simp only [hcl, if_true, Option.some.injEq] at hp
            subst hp
            rw [(hn c hnc).1] at hu
            cases hu
            exact .bsl _ _ _ _ _ _ _ (by omega) (by rw [upd_same]; omega) hsz fun _ => by rw [upd_same]; exact ⟨fun h => absurd h (by simp), Nat.le_refl _, by simp⟩
          · exact (hrep k u p (by simpa using hu) hp).1.mono (DExt.refl w fr) hg
        · simp only [Bool.and_eq_true, decide_eq_true_eq] at hj
          obtain ⟨q1, q2⟩ := hpart j hj.2
          refine ⟨?_, ?_⟩
          · simp only [vpart]
            rw [Array.getD_eq_getD_getElem?, List.getElem?_toArray, (hn j hj.2).1]
            rfl
          · simp only [PV.part, List.getD_eq_getElem?_getD]
            rw [List.getElem?_set_ne (fun e => hj.1 e.symm), q2]
            rfl
      · cases he
    · cases he
  · cases he

/-- A slice of data, as a box. -/
theorem does_bsl2 (h : Sim N tch w0 fr0 S a w fr β) {o : Oper} {t : TypeId} {len : Nat} {ps : Array (Nat × Operand)} {E : Eff} (hd : ∀ d, o.dst = some d → d < N) (ho : o.op = .buildSlice t len ps) (he : bsl2Eff P S o t len ps = some E) :
    Does P N tch w0 fr0 (E.apply S) o a w := by
  unfold bsl2Eff at he
  split at he
  · rename_i d e hdd ht
    split at he
    · rename_i hc
      obtain ⟨hlen, hbig, hpos, hz, _, _⟩ := hc
      split at he
      · rename_i xs hx
        cases he
        obtain ⟨e1, e2, e3, e4, e5⟩ := elemsD_sound h ps.toList 0 xs hx
        obtain ⟨z, hz⟩ := Option.isSome_iff_exists.1 hz
        have hxl : xs.length = len := by rw [e2]; simpa using hlen
        obtain ⟨us, hus⟩ : ∃ us, us = (ps.toList.map fun (_, x) => a.eval x).flatMap fun v => v.cells.toList := ⟨_, rfl⟩
        rw [← hus] at e5
        have hul : us.length = len * szT P e := by rw [e5.1, flat_length e3, hxl]
        have hrun : (Instr.buildSlice t len (ps.map fun (i, x) => (i, a.eval x))).run P w = .ok (.slice (some ⟨w.heap.size, 0, none⟩) len len) (w.alloc (.cells us.toArray e)) := by
          have hfill : ∀ cs : Array Value, cs.size = len * szT P e → Instr.fill (fun i => some (i * szT P e, szT P e)) cs (ps.map fun (i, x) => (i, a.eval x)).toList = some us.toArray := by
            intro cs hcs
            have := Great.fill_whole hpos (ps.toList.map fun (_, x) => a.eval x) cs e4 (by rw [hcs]; simp [hlen])
            rw [← e1, ← hus] at this
            rw [← this]
            simp
          obtain ⟨i, hi, hiz⟩ := info_of_zero hz
          have hb : ¬ (len * szT P e > 2 ^ 24) := by omega
          have hb' : ¬ (16777216 < len * szT P e) := by omega
          have hfill' : ∀ cs : Array Value, cs.size = len * szT P e → Instr.fill (fun i => some (i * szT P e, szT P e)) cs (List.map (fun x => (x.fst, a.eval x.snd)) ps.toList) = some us.toArray := by
            intro cs hcs
            simpa using hfill cs hcs
          by_cases h0 : len * szT P e = 0
          · simp [Instr.buildSlice, underlying, under_of_el ht, run_size hpos, h0, newRow]
            rw [hfill' _ (by simp [h0])]
            simp
          · simp [Instr.buildSlice, underlying, under_of_el ht, run_size hpos, hb', h0, zeroValue, typeInfo, hi, hiz, newRow]
            rw [hfill' _ (by simp)]
            simp
        have hfx : Fresh w fr (w.alloc (.cells us.toArray e)) (upd fr w.heap.size (some 0)) := by
          refine ⟨rfl, rfl, rfl, by simp, fun b hb => Below.heap_alloc _ _ _ hb, fun b hb => upd_ne _ _ (by omega), fun b f hf => ?_⟩
          by_cases e1 : b = w.heap.size
          · subst e1
            simp
          · rw [upd_ne _ _ e1] at hf
            have := h.frb b f hf
            simp
            omega
        have hS := h.newBox (hd d hdd) hfx (Nat.le_refl _) _ e (heap_alloc_new' w _) ((flat xs).map .d) (fun _ => false) (fun _ => false) (.bsl (S.fo + d) (S.gen (S.fo + d) + 1) len (szT P e) (aggT P e == some true)) (.slice (some ⟨w.heap.size, 0, none⟩) len len) (n := S.fo + d)
          (by rw [List.length_map, ← e5.1]; simp) (fun k u p hu hp => flatP_rep e5 k u p (by simpa using hu) hp) (by simp) (.inr ⟨len, szT P e, len, _, hpos, Nat.le_refl _, by simp [hul], rfl, rfl⟩)
        refine ⟨w.alloc (.cells us.toArray e), upd fr w.heap.size (some 0), upd β (S.fo + d) ⟨w.heap.size, us.toArray.size⟩, .inl ⟨.slice (some ⟨w.heap.size, 0, none⟩) len len, ?_, ?_⟩⟩
        · simp [execOp, ho, hrun]
        · rw [hdd]
          exact hS
      · cases he
    · cases he
  · cases he

/-- A mark behind the last cell of a block of one's own that is no box. -/
theorem Sim.mark (h : Sim N tch w0 fr0 S a w fr β) {b : Nat} {cs : Array Value} {E : TypeId} (hb : w.heap[b]? = some (.cells cs E (0, 0))) (hf : fr b = some cs.size) (hpos : 0 < cs.size) (hm : w0.heap.size ≤ b ∨ tch b) :
    Sim N tch w0 fr0 S a (w.freeze ⟨b, cs.size, none⟩ 1) fr β := by
  obtain ⟨w', hw'⟩ : ∃ w', w' = w.freeze ⟨b, cs.size, none⟩ 1 := ⟨_, rfl⟩
  rw [← hw']
  have hfz : w' = { w with heap := w.heap.modify b fun
      | .cells c elem (lo, hi) => .cells c elem (if lo == hi then (cs.size, cs.size + 1) else (min lo cs.size, max hi (cs.size + 1)))
      | o => o } := by rw [hw']; rfl
  have hsz : w'.heap.size = w.heap.size := by rw [hfz]; simp
  have hne : ∀ b', b' ≠ b → w'.heap[b']? = w.heap[b']? := by
    intro b' hn
    rw [hfz]
    simp only [Array.getElem?_modify]
    rw [if_neg (fun e => hn e.symm)]
  have heq : w'.heap[b]? = some (.cells cs E (cs.size, cs.size + 1)) := by
    rw [hfz]
    simp only [Array.getElem?_modify, if_true, hb]
    simp
  have hcell : ∀ b' o, w'.cell? ⟨b', o, none⟩ = w.cell? ⟨b', o, none⟩ := by
    intro b' o
    by_cases e : b' = b
    · subst e
      simp only [World.cell?, heq, hb]
    · exact World.cell?_of_block (w := w) (hne b' e)
  have hd : DExt w fr w' fr := ⟨fun b' o u hc _ => by rw [hcell]; exact hc, fun b' f' _ hf' => ⟨f', hf', Nat.le_refl _⟩, by omega⟩
  have hg := GExt.refl β S.gen
  have hvat : ∀ l, vat a w' β l = vat a w β l := by
    intro l
    cases l with
    | t i j => rfl
    | b n k => simp only [vat, hcell]
  have hbox : ∀ n, 0 < S.gen n → 0 < (β n).c → (β n).b ≠ b := by
    intro n hn h0 e
    have := (h.boxes n hn).reg h0
    rw [e, hf] at this
    have := Option.some.inj this
    omega
  refine ⟨h.defers, h.ntmps, by rw [← h.os, hfz], by rw [← h.tape, hfz], by rw [← h.output, hfz], by rw [hsz]; exact h.size, fun b' f' hf' => by rw [hsz]; exact h.frb b' f' hf', fun b' hb' ht => ?_, fun b' ht => ?_, fun i => (h.vals i).mono hd hg, fun n hn => ?_, h.binj, fun l hl => ?_, h.live, fun l l' hl hl' hne' b' hb' => ?_, h.ext⟩
  · rw [hne b' fun e => ?_]
    · exact h.frame b' hb' ht
    · subst e
      rcases hm with hm | hm
      · omega
      · exact ht hm
  · obtain ⟨hb', f0, f, e0, e, hle, hk⟩ := h.keep b' ht
    exact ⟨hb', f0, f, e0, e, hle, fun k u hk0 hc => by rw [hcell]; exact hk k u hk0 hc⟩
  · obtain ⟨hlen, hex, hreg, hmine⟩ := h.boxes n hn
    refine ⟨hlen, fun h0 => ?_, hreg, hmine⟩
    obtain ⟨c, E', hc', hs', hp'⟩ := hex h0
    exact ⟨c, E', by rw [hne _ (hbox n hn h0)]; exact hc', hs', fun k u p hu hp => ⟨(hp' k u p hu hp).1.mono hd hg, (hp' k u p hu hp).2⟩⟩
  · rw [hvat l]
    obtain ⟨xs, hxs, hh⟩ := h.own l hl
    refine ⟨xs, hxs, ?_⟩
    rcases hh with hh | ⟨b', c, cur, E', sz, q1, q2, q3, q4, q5, q6, q7, q8, q9⟩
    · exact .inl hh
    · have hbb : b' ≠ b := by
        intro e
        subst e
        rw [hb] at q5
        cases q5
        rw [hf] at q8
        have h1 : cs.size = xs.length * sz := by simpa using q8
        rw [q7] at h1
        have := Nat.mul_lt_mul_of_pos_right q2 q4
        omega
      exact .inr ⟨b', c, cur, E', sz, q1, q2, q3, q4, by rw [hne _ hbb]; exact q5, q6, q7, q8, q9⟩
  · rw [hvat] at hb'
    rw [hvat]
    exact h.oinj l l' hl hl' hne' b' hb'

/-- Bytes of a literal, turned to bytes. -/
theorem does_cvf (h : Sim N tch w0 fr0 S a w fr β) {o : Oper} {src dst : TypeId} {x : Operand} {E : Eff} (hd : ∀ d, o.dst = some d → d < N) (ho : o.op = .convert src dst x) (he : cvfEff P S o src dst x = some E) :
    Does P N tch w0 fr0 (E.apply S) o a w := by
  unfold cvfEff at he
  split at he
  · rename_i e n g len sz ag hu hx
    split at he
    · rename_i hc
      obtain ⟨rfl, hu8, hlen⟩ := hc
      have hu8 := isU8_eq hu8
      have hv := h.ev x
      rw [hx] at hv
      obtain ⟨A, cap, hev, h0, hs0, hAA⟩ := inv_bsl hv
      have hth : ∃ xs, thawed S n g len sz ag = some xs := by
        unfold frzE frzV frzC at he
        cases ht : thawed S n g len sz ag with
        | none => simp [ht] at he
        | some xs => exact ⟨xs, rfl⟩
      obtain ⟨xs, hxs⟩ := hth
      have hgg : g = S.gen n := by
        unfold thawed at hxs
        split at hxs
        · rename_i hq; exact hq.1
        · cases hxs
      have hgn : 0 < S.gen n := by omega
      obtain ⟨hA, hle, hcap⟩ := hAA hgg
      have hcpos : 0 < (β n).c := by
        rw [← hcap]
        exact Nat.mul_pos (by omega) hs0
      have hAe := hA hcpos
      have hbn := h.boxes n hgn
      obtain ⟨cs, E', hcs, hsz, _⟩ := hbn.ex hcpos
      obtain ⟨fr', β', hS, hdx, hg, hb1, hb2, _, _⟩ := h.freeze1 hgn
      have hE : E = ⟨o.dst, .d (.slice xs), fun _ => false, fun _ => false, [kill S n]⟩ := by
        unfold frzE frzV frzC at he
        simp [hxs] at he
        exact he.symm
      subst hE
      have hfv : frzV S (.bsl n g len sz ag) = some (.slice xs, [n]) := by simp [frzV, frzC, hxs]
      have hr := (frzV_rep h hfv hv hdx (fun m hm hg0 h0 => by simp at hm; subst hm; exact ⟨_, hb2 h0, (h.boxes _ hg0).len⟩)).1
      have hS' := hS.put0 o.dst (a.eval x) (.d (.slice xs)) hd (.d _ _ hr)
      have hEq : ((⟨o.dst, .d (.slice xs), fun _ => false, fun _ => false, []⟩ : Eff).apply (S.kills [n])) = ((⟨o.dst, .d (.slice xs), fun _ => false, fun _ => false, [kill S n]⟩ : Eff).apply S) := by
        simp only [Eff.apply, PS.kills, List.map_cons, List.map_nil, findU_nil]
        congr 1
        funext l
        cases l with
        | t i j => simp
        | b q k => by_cases e : (kill S n).n = q <;> simp [e]
      rw [hEq] at hS'
      have hM := hS'.mark hcs (by rw [hb2 hcpos, hsz]) (by omega) (hbn.mine hcpos)
      refine ⟨_, fr', β', .inl ⟨a.eval x, ?_, hM⟩⟩
      have hshape : w.shape? (β n).b = some (E', cs.size) := by simp [World.shape?, hcs]
      rw [hev, hAe]
      simp [execOp, ho, hev, hAe, convert, run_underlying hu, run_underlying hu8, markStringish, hshape]
    · cases he
  · cases he

theorem effF0_sound (h : Sim N tch w0 fr0 S a w fr β) {tr : List Nat} {o : Oper} {E : Eff} (he : effF0 P N tr S o = some E) : Does P N tch w0 fr0 (E.apply S) o a w := by
  unfold effF0 at he
  split at he
  · rename_i hdst
    have hd : ∀ d, o.dst = some d → d < N := by
      intro d e
      unfold dstOk at hdst
      rw [e] at hdst
      simpa using hdst
    split at he
    · rename_i ho; cases he; exact does_mv h hd (.inr ho)
    · rename_i x ho
      split at he
      · obtain ⟨fr', β', hS⟩ := frzE_sound h hd he (h.ev x)
        exact ⟨w, fr', β', .inl ⟨a.eval x, by simp [execOp, ho], hS⟩⟩
      · cases he; exact does_mv h hd (.inl ho)
    · rename_i ho
      split at he
      · split at he
        · rename_i hs
          split at he
          · cases he
          · rename_i hpt hp
            cases he
            exact does_extract h hd ho hs hp (fun q e => by subst e; exact hpt q rfl)
          · cases he
        · cases he
      · cases he
    · rename_i t x ho
      split at he
      · rename_i r hl
        obtain ⟨v, hrun, hr, hcell⟩ := load_sound h hl
        have hrun' : (execOp a.eval o).run P w = .ok (.value v) w := by simp [execOp, ho, hrun]
        split at he
        · obtain ⟨fr', β', hS⟩ := frzE_sound h hd he hr
          exact ⟨w, fr', β', .inl ⟨v, hrun', hS⟩⟩
        split at he
        · split at he
          · rename_i n g off hx hagg
            cases he
            obtain ⟨e1, e2, hgn⟩ := hcell n g off hx hagg
            refine ⟨w, fr, β, .inl ⟨v, hrun', ?_⟩⟩
            have hvp : S.own (.b n off) = true → vpart v 0 = v ∧ r.part 0 = r := by
              intro ho
              obtain ⟨xs, e, hh⟩ := h.own (.b n off) ho
              rw [← e1] at hh
              rw [← e2] at e
              subst e
              rcases hh with ⟨A, n', rfl⟩ | ⟨b, c, cur, E, sz, rfl, _⟩ <;> exact ⟨rfl, rfl⟩
            refine h.putv ⟨o.dst, r, fun j => j == 0 && S.own (.b n off), fun l => l == .b n off, []⟩ rfl v hd hr (fun j hj => ?_) (fun j hj b hb l hl' hc => ?_) (fun j j' hj hj' hne => ?_)
            · simp at hj
              obtain ⟨rfl, ho⟩ := hj
              obtain ⟨q1, q2⟩ := hvp ho
              rw [q1, q2, e1, e2]
              exact h.own _ ho
            · simp at hj
              obtain ⟨rfl, ho⟩ := hj
              obtain ⟨q1, q2⟩ := hvp ho
              rw [q1, e1] at hb
              exact h.oinj (.b n off) l ho hl' (fun e => by subst e; simp at hc) b hb
            · simp at hj hj'
              omega
          · cases he
        · cases he
          exact ⟨w, fr, β, .inl ⟨v, hrun', h.put0 o.dst v r hd hr⟩⟩
      · cases he
    · rename_i e ho
      split at he
      · rename_i d z hdd hz
        split at he
        · rename_i hall
          cases he
          exact does_alloc h (hd d hdd) hdd ho hz hall
        · cases he
      · cases he
    · rename_i e x ho
      split at he
      · rename_i d cs hdd hc
        split at he
        · simp only [Option.map_eq_some_iff] at he
          obtain ⟨ds, hds, rfl⟩ := he
          exact does_boxF h (hd d hdd) hdd ho hc hds
        · split at he
          · exact does_boxOw h (hd d hdd) hdd ho hc he
          cases he
          exact does_box h (hd d hdd) hdd ho hc
      · cases he
    · rename_i t l c ho
      split at he
      · rename_i d e k n k' m hdd ht hl hc
        split at he
        · rename_i z by_ hz hb
          split at he
          · rename_i hcond
            obtain ⟨rfl, h0, hn, hnb, hs, h1⟩ := hcond
            split at he
            · cases he
              exact does_makeSliceF h (hd d hdd) hdd ho ht hl hc hz hb h0 hn hnb hs h1
            · cases he
              exact does_makeSlice h (hd d hdd) hdd ho ht hl hc hz hb h0 hn hnb hs h1
          · cases he
        · cases he
      · cases he
    · rename_i t x v ho
      split at he
      · rename_i n g off cs hdd hx hc
        split at he
        · rename_i hcond
          obtain ⟨hg, hsz, hpos, hle⟩ := hcond
          obtain ⟨hrun, hl, hgn, hrep⟩ := store_run (P := P) h hdd ho hx hc hg hsz hpos hle
          split at he
          · rename_i s
            cases he
            refine ⟨_, fr, β, .inr ⟨hrun, ?_⟩⟩
            rw [hdd, hg]
            refine h.setBox hgn _ cs (slotOf s) _ (fun _ _ => rfl) hl (by omega) (by have := (h.boxes n hgn).len; omega) (by have := (h.boxes n hgn).len; omega) hrep (fun k hk => ?_)
            split at hk
            · rename_i hin
              simp only [Bool.and_eq_true, beq_iff_eq] at hk
              obtain ⟨⟨h1, hos⟩, hsl⟩ := hk
              have hk0 : k = off := by omega
              refine .inr ⟨0, .t s 0, by omega, by omega, .inr ⟨hos, by simp [slotOf], h1, ?_, ?_⟩⟩
              · obtain ⟨xs, e, hh⟩ := h.own (.t s 0) hos
                have hv : vat a w β (.t s 0) = a.tmps.getD s undef ∨ True := .inr trivial
                -- the slot holds a slice
                have hsv : ∃ ys, S.t s = .d (.slice ys) := by
                  cases hst : S.t s with
                  | d x => 
                    cases x with
                    | slice ys => exact ⟨ys, rfl⟩
                    | _ => simp [PS.ev, hst] at hsl
                  | _ => simp [PS.ev, hst] at hsl
                obtain ⟨ys, hys⟩ := hsv
                have hvs := h.vals s
                rw [hys] at hvs
                obtain ⟨A, cap, sz, us, ev, _⟩ := slice_inv (inv_d hvs)
                simp only [Act.eval, vat, ev]
                rfl
              · have hsv : ∃ ys, S.t s = .d (.slice ys) := by
                  cases hst : S.t s with
                  | d x => 
                    cases x with
                    | slice ys => exact ⟨ys, rfl⟩
                    | _ => simp [PS.ev, hst] at hsl
                  | _ => simp [PS.ev, hst] at hsl
                obtain ⟨ys, hys⟩ := hsv
                simp only [PS.ev, hys, pcells, cells, Option.some.injEq] at hc
                subst hc
                simp [PS.at, hys, PV.part]
            · rename_i hout
              exact .inl ⟨by omega, hk⟩
          · rename_i v hnt
            cases he
            refine ⟨_, fr, β, .inr ⟨hrun, ?_⟩⟩
            rw [hdd, hg]
            refine h.setBox hgn _ cs (fun _ => false) _ (fun _ _ => rfl) hl (by omega) (by have := (h.boxes n hgn).len; omega) (by have := (h.boxes n hgn).len; omega) hrep (fun k hk => ?_)
            split at hk
            · rename_i hin
              split at hk
              · rename_i c
                have hcn := isNilV_eq hk
                subst hcn
                have hcs : cs = [.d (.slice [])] := by
                  simp [PS.ev, ofConst, ofConstD, pcells, cells] at hc
                  exact hc.symm
                subst hcs
                simp at hin
                refine .inr ⟨0, .t 0 0, by omega, by simp, .inl ⟨rfl, rfl⟩⟩
              · cases hk
            · rename_i hout
              exact .inl ⟨by omega, hk⟩
        · cases he
      · cases he
    · rename_i args ts ho
      split at he
      · split at he
        · rename_i m hsb
          split at he
          · rename_i hrb
            simp only [Option.bind_eq_some_iff] at he
            obtain ⟨E0, he0, hg⟩ := he
            exact does_give h hd ho hsb hrb.2 he0 hg
          · cases he
        · cases he
      · exact (does_append h hd ho he).1
    · rename_i t ps ho
      split at he
      · exact does_buildNb h hd ho he
      split at he
      · simp only [Option.map_eq_some_iff] at he
        obtain ⟨r, hr, rfl⟩ := he
        exact does_buildOw h hd ho hr
      · simp only [Option.map_eq_some_iff] at he
        obtain ⟨r, hr, rfl⟩ := he
        exact does_value h hd hr
    · rename_i t len ps ho
      split at he
      · split at he
        · exact does_bsl2 h hd ho he
        · exact does_bsl1 h hd ho he
      · simp only [Option.map_eq_some_iff] at he
        obtain ⟨r, hr, rfl⟩ := he
        exact does_value h hd hr
    · rename_i src dst x ho
      split at he
      · exact does_cvf h hd ho he
      · simp only [Option.map_eq_some_iff] at he
        obtain ⟨r, hr, rfl⟩ := he
        exact does_value h hd hr
    · simp only [Option.map_eq_some_iff] at he
      obtain ⟨r, hr, rfl⟩ := he
      exact does_value h hd hr
  · cases he
theorem effF_sound (h : Sim N tch w0 fr0 S a w fr β) {tr : List Nat} {o : Oper} {E : Eff} (he : effF P N tr S o = some E) : Does P N tch w0 fr0 (E.apply S) o a w := by
  unfold effF at he
  split at he
  · exact effF0_sound h he
  · cases he
end

end BoEng
