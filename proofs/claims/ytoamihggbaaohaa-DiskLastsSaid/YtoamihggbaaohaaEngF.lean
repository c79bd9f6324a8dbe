/- The quiet operations: what the pure machine comes to, the model comes to. -/
import Derived.Test.YtoamihggbaaohaaEngE
import Derived.Laws.Slices
import Derived.Laws.Strings
import Derived.Laws.IdiomStrings
namespace BoEng
open Go Go.RowKit

section parts
variable {P : Program} {w : World} {fr : Nat → Option Nat}

theorem one_of_rep {v : Value} {x : DV} (h : DRep w fr v x) (hx : ∀ cs, x ≠ .agg cs) : one v := by
  cases h <;> first | rfl | assumption | exact absurd rfl (hx _)

theorem partD_sound {t : TypeId} {vs : List Value} {cs : List DV} {off : Nat} {r : DV} (hl : vs.length = cs.length) (h1 : ∀ v ∈ vs, one v)
    (h : ∀ (k : Nat) (v : Value) (p : DV), vs[k]? = some v → cs[k]? = some p → DRep w fr v p) (hp : partD P t cs off = some r) :
    ∃ z, (part t vs.toArray off).run P w = .ok z w ∧ DRep w fr z r := by
  unfold partD at hp
  split at hp
  · rename_i ha
    split at hp
    · rename_i hle
      cases hp
      refine ⟨.agg (((vs.drop off).take (szT P t)).toArray), ?_, .agg _ _ (by simp [hl]) (fun v hv => h1 v (List.mem_of_mem_drop (List.mem_of_mem_take hv))) (fun k v p hv hp => ?_)⟩
      · simp only [part, Sem.run_bind, run_isAgg ha, Result.andThen_ok, if_true, run_size hle.1, Sem.run_pure]
        congr 2
        simp [List.extract_eq_take_drop]
      · rw [List.getElem?_take] at hv hp
        split at hv
        · rename_i hk
          rw [if_pos hk] at hp
          rw [List.getElem?_drop] at hv hp
          exact h _ v p hv hp
        · cases hv
    · cases hp
  · rename_i ha
    have hlt : off < vs.length := by
      rw [hl]
      exact (List.getElem?_eq_some_iff.1 hp).1
    refine ⟨vs[off], ?_, h off _ _ (List.getElem?_eq_getElem hlt) hp⟩
    simp [part, run_isAgg ha, List.getElem?_eq_getElem hlt]
  · cases hp


theorem toD_spec : ∀ (ps : List PV) (ds : List DV), toD ps = some ds → ps = ds.map .d
  | [], ds, h => by simp [toD] at h; subst h; rfl
  | .d x :: r, ds, h => by
    simp only [toD, Option.map_eq_some_iff] at h
    obtain ⟨ds', h', rfl⟩ := h
    rw [toD_spec r ds' h']
    rfl
  | .ptr _ _ _ :: r, ds, h => by simp [toD] at h
  | .cptr _ :: r, ds, h => by simp [toD] at h
  | .bsl _ _ _ _ _ :: r, ds, h => by simp [toD] at h
  | .pa _ :: r, ds, h => by simp [toD] at h
  | .fn _ _ :: r, ds, h => by simp [toD] at h
  | .tup _ :: r, ds, h => by simp [toD] at h
  | .any :: r, ds, h => by simp [toD] at h


/-- A struct of cells stands for what its cells stand for. -/
theorem mkA_rep {w : World} {fr : Nat → Option Nat} {β : Nat → Blk} {gen : Nat → Nat} {vs : List Value} {cs : List PV} (hl : vs.length = cs.length) (h1 : ∀ v ∈ vs, one v)
    (h : ∀ (k : Nat) (v : Value) (p : PV), vs[k]? = some v → cs[k]? = some p → PRep w fr β gen v p) : PRep w fr β gen (.agg vs.toArray) (mkA cs) := by
  unfold mkA
  split
  · rename_i c hc
    have hs := toD_spec _ _ hc
    subst hs
    refine .d _ _ (.agg vs c (by simpa using hl) h1 fun k v p hv hp => ?_)
    exact inv_d (h k v (.d p) hv (by rw [List.getElem?_map, hp]; rfl))
  · exact .pa vs cs hl h1 h

theorem partP_sound {P : Program} {w : World} {fr : Nat → Option Nat} {β : Nat → Blk} {gen : Nat → Nat} {t : TypeId} {vs : List Value} {cs : List PV} {off : Nat} {r : PV} (hl : vs.length = cs.length) (h1 : ∀ v ∈ vs, one v)
    (h : ∀ (k : Nat) (v : Value) (p : PV), vs[k]? = some v → cs[k]? = some p → PRep w fr β gen v p) (hp : partP P t cs off = some r) :
    ∃ z, (part t vs.toArray off).run P w = .ok z w ∧ PRep w fr β gen z r := by
  unfold partP at hp
  split at hp
  · rename_i ha
    split at hp
    · rename_i hle
      cases hp
      refine ⟨.agg (((vs.drop off).take (szT P t)).toArray), ?_, mkA_rep (by simp [hl]) (fun v hv => h1 v (List.mem_of_mem_drop (List.mem_of_mem_take hv))) (fun k v p hv hp => ?_)⟩
      · simp only [part, Sem.run_bind, run_isAgg ha, Result.andThen_ok, if_true, run_size hle.1, Sem.run_pure]
        congr 2
        simp [List.extract_eq_take_drop]
      · rw [List.getElem?_take] at hv hp
        split at hv
        · rename_i hk
          rw [if_pos hk] at hp
          rw [List.getElem?_drop] at hv hp
          exact h _ v p hv hp
        · cases hv
    · cases hp
  · rename_i ha
    have hlt : off < vs.length := by
      rw [hl]
      exact (List.getElem?_eq_some_iff.1 hp).1
    refine ⟨vs[off], ?_, h off _ _ (List.getElem?_eq_getElem hlt) hp⟩
    simp [part, run_isAgg ha, List.getElem?_eq_getElem hlt]
  · cases hp

/-- What a slice of data says, taken apart. -/
theorem slice_inv {v : Value} {xs : List DV} (h : DRep w fr v (.slice xs)) : ∃ (A : Option Addr) (cap sz : Nat) (us : Nat → Value), v = .slice A xs.length cap ∧ xs.length ≤ cap ∧ (∀ x ∈ xs, (cells x).length = sz) ∧
    (0 < xs.length → ∃ ad, A = some ad ∧ ad.spot = none ∧ (∀ f, fr ad.block = some f → ∀ k, k < xs.length * sz → ad.off + k < f) ∧ ∀ k, k < xs.length * sz → w.cell? ⟨ad.block, ad.off + k, none⟩ = some (us k)) ∧
    (∀ k, k < xs.length * sz → one (us k)) ∧ (∀ (k : Nat) (p : DV), (flat xs)[k]? = some p → DRep w fr (us k) p) := by
  cases h with
  | slice A cap sz us xs hcap hsz ha h1 h => exact ⟨A, cap, sz, us, rfl, hcap, hsz, ha, h1, h⟩

theorem agg_inv {v : Value} {cs : List DV} (h : DRep w fr v (.agg cs)) : ∃ vs : List Value, v = .agg vs.toArray ∧ vs.length = cs.length ∧ (∀ u ∈ vs, one u) ∧ ∀ (k : Nat) (u : Value) (p : DV), vs[k]? = some u → cs[k]? = some p → DRep w fr u p := by
  cases h with
  | agg vs cs hl h1 h => exact ⟨vs, rfl, hl, h1, h⟩

theorem add_off {ad : Addr} (h : ad.spot = none) (n : Nat) : ad.add n = ⟨ad.block, ad.off + n, none⟩ := by
  obtain ⟨b, o, s⟩ := ad
  simp only at h
  subst h
  unfold Addr.add
  split <;> simp_all

end parts

section
variable {P : Program} {N : Nat} {tch : Env} {w0 : World} {fr0 : Nat → Option Nat} {S : PS} {a : Act} {w : World} {fr : Nat → Option Nat} {β : Nat → Blk}

theorem Sim.freshRefl (h : Sim N tch w0 fr0 S a w fr β) : Fresh w fr w fr := ⟨rfl, rfl, rfl, Nat.le_refl _, fun _ _ => rfl, fun _ _ => rfl, h.frb⟩

theorem bnd_sound (h : Sim N tch w0 fr0 S a w fr β) {top l : Nat} {x : Operand} (hb : bnd S top x = some l) : l ≤ top ∧ ∃ k i, a.eval x = .int k i ∧ 0 ≤ i ∧ i.toNat = l ∧
    ∀ y code, l ≤ y → (Instr.sliceBound (a.eval x) y code).run P w = .ok l w := by
  unfold bnd at hb
  split at hb
  · rename_i k i hx
    have hv := h.ev x
    rw [hx] at hv
    have hv := inv_int hv
    split at hb
    · rename_i hi
      cases hb
      refine ⟨by omega, k, i, hv, hi.1, rfl, fun y code hy => ?_⟩
      rw [hv]
      exact run_sliceBound w k i y code hi.1 (by omega)
    · cases hb
  · cases hb

/-- What quiet operations owe. -/
def Val (P : Program) (S : PS) (o : Oper) (a : Act) (w : World) (fr : Nat → Option Nat) (β : Nat → Blk) (r : PV) (b : Bool) : Prop :=
  ∃ v w' fr', (execOp a.eval o).run P w = .ok (.value v) w' ∧ Fresh w fr w' fr' ∧ PRep w' fr' β S.gen v r ∧ (b = true → ∃ A n xs, v = .slice A n n ∧ r = .d (.slice xs))

theorem Val.of (h : Sim N tch w0 fr0 S a w fr β) {o : Oper} {s : Sem Value} {r : PV} {v : Value} (he : execOp a.eval o = (do pure (.value (← s)))) (hs : s.run P w = .ok v w) (hr : PRep w fr β S.gen v r) : Val P S o a w fr β r false :=
  ⟨v, w, fr, by rw [he]; simp [hs], h.freshRefl, hr, by simp⟩

theorem val_fieldAddr (h : Sim N tch w0 fr0 S a w fr β) {o : Oper} {t f : Nat} {x : Operand} {r : PV} {b : Bool} (ho : o.op = .fieldAddr t x f) (he : effV P S o = some (r, b)) : Val P S o a w fr β r b := by
  simp only [effV, ho] at he
  have hx := h.ev x
  split at he
  · rename_i off ft n g oo hf hp
    rw [hp] at hx
    split at he
    · rename_i hg
      cases he
      obtain ⟨fs, fl, hu, hfl, rfl, rfl⟩ := under_of_fld hf
      cases hxe : a.eval x with
      | pointer oa =>
        rw [hxe] at hx
        cases hx with
        | ptr ad n g o h0 hle hs hh =>
          refine Val.of h (s := Instr.fieldAt t (a.eval x) f) (by simp [execOp, ho]) (v := .pointer (some ⟨ad.block, ad.off + fl.offset, none⟩)) ?_ ?_
          · have hne : szT P fl.type ≠ 0 := by omega
            rw [hxe]
            simp [Instr.fieldAt, underlying, hu, hfl, Instr.sureAddr, fieldPlace, run_size hg, hne, add_off hs]
          · refine .ptr _ _ _ _ h0 hle rfl fun e => ?_
            rw [hh e]
      | _ => rw [hxe] at hx; cases hx
    · cases he
  · rename_i off ft cs hf hp
    rw [hp] at hx
    split at he
    · rename_i hg
      cases he
      obtain ⟨fs, fl, hu, hfl, rfl, rfl⟩ := under_of_fld hf
      cases hxe : a.eval x with
      | pointer oa =>
        rw [hxe] at hx
        cases hx with
        | cptr ad us cs hs hff hc h1 hh =>
          refine Val.of h (s := Instr.fieldAt t (a.eval x) f) (by simp [execOp, ho]) (v := .pointer (some ⟨ad.block, ad.off + fl.offset, none⟩)) ?_ ?_
          · have hne : szT P fl.type ≠ 0 := by omega
            rw [hxe]
            simp [Instr.fieldAt, underlying, hu, hfl, Instr.sureAddr, fieldPlace, run_size hg.1, hne, add_off hs]
          · refine .cptr ⟨ad.block, ad.off + fl.offset, none⟩ (fun k => us (fl.offset + k)) _ rfl (fun f hf k hk => ?_) (fun k hk => ?_) (fun k hk => ?_) (fun k p hp => ?_)
            · rw [List.length_drop] at hk
              have := hff f hf (fl.offset + k) (by omega)
              simp only
              omega
            · rw [List.length_drop] at hk
              have := hc (fl.offset + k) (by omega)
              simp only
              rw [Nat.add_assoc]
              exact this
            · rw [List.length_drop] at hk
              exact h1 _ (by omega)
            · rw [List.getElem?_drop] at hp
              exact hh _ p hp
      | _ => rw [hxe] at hx; cases hx
    · cases he
  · cases he

theorem val_field (h : Sim N tch w0 fr0 S a w fr β) {o : Oper} {t f : Nat} {x : Operand} {r : PV} {b : Bool} (ho : o.op = .field t x f) (he : effV P S o = some (r, b)) : Val P S o a w fr β r b := by
  simp only [effV, ho] at he
  have hx := h.ev x
  split at he
  · rename_i off ft cs hf hp
    rw [hp] at hx
    obtain ⟨fs, fl, hu, hfl, rfl, rfl⟩ := under_of_fld hf
    simp only [Option.map_eq_some_iff] at he
    obtain ⟨d, hd, he⟩ := he
    cases he
    obtain ⟨vs, e, hl, h1, hh⟩ := agg_inv (inv_d hx)
    obtain ⟨z, hz, hzr⟩ := partD_sound (P := P) hl h1 hh hd
    refine Val.of h (s := Instr.field t (a.eval x) f) (by simp [execOp, ho]) (v := z) ?_ (.d _ _ hzr)
    rw [e]
    simp [Instr.field, underlying, hu, hfl, asAgg, hz]
  · rename_i off ft cs hf hp
    rw [hp] at hx
    obtain ⟨fs, fl, hu, hfl, rfl, rfl⟩ := under_of_fld hf
    simp only [Option.map_eq_some_iff] at he
    obtain ⟨d, hd, he⟩ := he
    cases he
    obtain ⟨vs, e, hl, h1, hh⟩ := inv_pa hx
    obtain ⟨z, hz, hzr⟩ := partP_sound (P := P) hl h1 hh hd
    refine Val.of h (s := Instr.field t (a.eval x) f) (by simp [execOp, ho]) (v := z) ?_ hzr
    rw [e]
    simp [Instr.field, underlying, hu, hfl, asAgg, hz]
  · cases he

theorem val_indexAddr (h : Sim N tch w0 fr0 S a w fr β) {o : Oper} {t : Nat} {x i : Operand} {r : PV} {b : Bool} (ho : o.op = .indexAddr t x i) (he : effV P S o = some (r, b)) : Val P S o a w fr β r b := by
  simp only [effV, ho] at he
  have hx := h.ev x
  have hi := h.ev i
  split at he
  · rename_i e xs k n ht hp hq
    rw [hp] at hx
    rw [hq] at hi
    split at he
    · rename_i hb
      split at he
      · rename_i y hy
        split at he
        · rename_i hz
          cases he
          obtain ⟨A, cap, sz, us, ev, hcap, hsz, ha, h1, hh⟩ := slice_inv (inv_d hx)
          obtain ⟨ad, rfl, hs, hf, hc⟩ := ha (by omega)
          have hsy := hsz y (List.mem_of_getElem? hy)
          have esz : sz = szT P e := by omega
          have hlt : n.toNat * sz + sz ≤ xs.length * sz := by
            rw [← Nat.succ_mul]
            exact Nat.mul_le_mul_right _ (by omega)
          refine Val.of h (s := Instr.indexAt t (a.eval x) (a.eval i)) (by simp [execOp, ho]) (v := .pointer (some ⟨ad.block, ad.off + n.toNat * sz, none⟩)) ?_ ?_
          · rw [ev, inv_int hi]
            simp [Instr.indexAt, underlying, under_of_el ht, asIntOf, hb, run_size hz.2, add_off hs, esz]
          · refine .cptr ⟨ad.block, ad.off + n.toNat * sz, none⟩ (fun k => us (n.toNat * sz + k)) _ rfl (fun f hff k hk => ?_) (fun k hk => ?_) (fun k hk => ?_) (fun k p hp => ?_)
            · have := hf f hff (n.toNat * sz + k) (by omega)
              simp only
              omega
            · have := hc (n.toNat * sz + k) (by omega)
              simp only
              rw [Nat.add_assoc]
              exact this
            · exact h1 _ (by omega)
            · refine hh _ p ?_
              have hk : k < sz := by
                have := (List.getElem?_eq_some_iff.1 hp).1
                omega
              rw [flat_at hsz _ y hy k hk]
              exact hp
        · cases he
      · cases he
    · cases he
  · rename_i e n g len sz ag k m ht hp hq
    rw [hp] at hx
    rw [hq] at hi
    split at he
    · rename_i hb
      cases he
      obtain ⟨A, cap, ev, h0, hsz, hA⟩ := inv_bsl hx
      have hA := hA hb.2.2.1
      have hgn : 0 < S.gen n := by rw [← hb.2.2.1]; exact h0
      have hbx := h.boxes n hgn
      have hl0 : 0 < len := by omega
      have hc : 0 < (β n).c := Nat.lt_of_lt_of_le (Nat.mul_pos hl0 hsz) (Nat.le_trans hb.2.2.2.2 hbx.len)
      obtain ⟨hA1, _, _⟩ := hA
      have hA1 := hA1 hc
      subst hA1
      refine Val.of h (s := Instr.indexAt t (a.eval x) (a.eval i)) (by simp [execOp, ho]) (v := .pointer (some ⟨(β n).b, m.toNat * sz, none⟩)) ?_ ?_
      · rw [ev, inv_int hi]
        have hz : (Go.sizeOf e).run P w = .ok sz w := by
          have := run_size (P := P) (w := w) (t := e) (by omega)
          rw [hb.2.2.2.1] at this
          exact this
        simp [Instr.indexAt, underlying, under_of_el ht, asIntOf, hb.1, hb.2.1, hz, add_off]
      · exact .ptr _ _ _ _ h0 (by omega) rfl fun e => rfl
    · cases he
  · cases he

theorem val_index (h : Sim N tch w0 fr0 S a w fr β) {o : Oper} {t : Nat} {x i : Operand} {r : PV} {b : Bool} (ho : o.op = .index t x i) (he : effV P S o = some (r, b)) : Val P S o a w fr β r b := by
  simp only [effV, ho] at he
  have hx := h.ev x
  have hi := h.ev i
  split at he
  · rename_i s k n ht hp hq
    rw [hp] at hx
    rw [hq] at hi
    split at he
    · rename_i hb
      cases he
      refine Val.of h (s := Instr.index t (a.eval x) (a.eval i)) (by simp [execOp, ho]) (v := .int .u8 (s.getD n.toNat 0).toNat) ?_ (.d _ _ (.int _ _))
      rw [inv_str hx, inv_int hi, run_index_string _ _ _ _ _ ht]
      have hsz : (ByteArray.mk s.toArray).size = s.length := str_size s
      rw [dif_pos ⟨hb.1, by rw [hsz]; exact hb.2⟩]
      congr 2
      have hlt : n.toNat < s.length := by omega
      have : (ByteArray.mk s.toArray)[n.toNat]'(by rw [hsz]; exact hlt) = s.getD n.toNat 0 := by
        simp [List.getD_eq_getElem?_getD, List.getElem?_eq_getElem hlt]
        rfl
      rw [this]
    · cases he
  · cases he
end

end BoEng
