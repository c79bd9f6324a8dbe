/- Stores, appends, and all operations but calls of functions in one theorem. -/
import Derived.Test.YtkiccmpebcjhlaaEngM
namespace BoEng
set_option linter.unusedSimpArgs false
set_option linter.unusedVariables false
open Go Go.RowKit

section
variable {P : Program} {N : Nat} {tch : Nat → Prop} {w0 : World} {fr0 : Nat → Option Nat} {S : PS} {a : Act} {w : World} {fr : Nat → Option Nat} {β : Nat → Nat}

theorem store_run (h : Sim N tch w0 fr0 S a w fr β) {o : Oper} {t : TypeId} {x v : Operand} {n g off : Nat} {cs : List PV} (hdst : o.dst = none) (ho : o.op = .store t x v) (hx : S.ev x = .ptr n g off) (hc : pcells (S.ev v) = some cs)
    (hg : g = S.gen n) (hsz : cs.length = szT P t) (hpos : 0 < szT P t) (hle : off + cs.length ≤ (S.box n).length) :
    (execOp a.eval o).run P w = .ok .skip (w.setCells (β n) off (a.eval v).cells.toList) ∧ (a.eval v).cells.toList.length = cs.length ∧ 0 < S.gen n ∧
      ∀ (k : Nat) (u : Value) (p : PV), (a.eval v).cells.toList[k]? = some u → cs[k]? = some p → PRep w fr β S.gen u p ∧ one u := by
  have hxv := h.ev x
  rw [hx] at hxv
  obtain ⟨e, h0⟩ := inv_ptr hxv hg
  obtain ⟨e1, e2⟩ := pcells_rep (h.ev v) hc
  have hgn : 0 < S.gen n := by rw [← hg]; exact h0
  obtain ⟨⟨c, E, hh, hcs, hcp⟩, _, _⟩ := h.boxes n hgn
  have hcell : ∀ k, w.cell? ⟨β n, k, none⟩ = c[k]? := fun k => by simp only [World.cell?, hh]; rfl
  have hl : (a.eval v).cells.toList.length = cs.length := by rw [← e1]; simp
  have hp2 : ∀ (k : Nat) (u : Value) (p : PV), (a.eval v).cells.toList[k]? = some u → cs[k]? = some p → PRep w fr β S.gen u p ∧ one u := fun k u p hu hp => e2 k u p (by simpa using hu) hp
  have hst : (storeCells ⟨β n, off, none⟩ (a.eval v).cells.toList).run P w = .ok () (w.setCells (β n) off (a.eval v).cells.toList) := by
    refine run_storeCells_cells (P := P) (β n) off _ 0 w (fun j hj => ?_) (fun j hj => ?_) (fun u hu => ?_)
    · rw [hcell]
      have : off + (0 + j) < c.size := by omega
      simp
      omega
    · simp [World.frozen?, hh]
    · obtain ⟨k, hk⟩ := List.getElem?_of_mem hu
      have hkl : k < cs.length := by
        have := (List.getElem?_eq_some_iff.1 hk).1
        omega
      exact (hp2 k u _ hk (List.getElem?_eq_getElem hkl)).2
  refine ⟨?_, hl, hgn, hp2⟩
  simp only [execOp, ho, e, Instr.storeAt, Instr.sureAddr, storeVar, Sem.run_bind, Sem.run_pure, Result.andThen_ok, run_size hpos]
  rw [if_neg (by rw [e1, hsz]; simp)]
  simp only [Sem.run_bind, hst, Result.andThen_ok, Sem.run_pure]

theorem does_append (h : Sim N tch w0 fr0 S a w fr β) {o : Oper} {args : Array Operand} {ts : Array TypeId} {E : Eff} (hd : ∀ d, o.dst = some d → d < N) (ho : o.op = .call ⟨.builtin .append, args, ts⟩) (he : appEff P S o args.toList ts.toList = some E) :
    Does P N tch w0 fr0 (E.apply S) o a w := by
  unfold appEff at he
  split at he
  · rename_i s x t tx hargs hts
    obtain rfl : args = #[.tmp s, x] := by rw [← Array.toArray_toList (xs := args), hargs]
    obtain rfl : ts = #[t, tx] := by rw [← Array.toArray_toList (xs := ts), hts]
    split at he
    · rename_i e xs ht hs
      split at he
      · rename_i ys by_ z hsrc hb hz
        split at he
        · rename_i hc
          obtain ⟨hown, hzs, hszx, hszy, hpos, hb0, hbound⟩ := hc
          cases he
          obtain ⟨i, hi, hiz⟩ := info_of_zero hz
          obtain ⟨i2, hi2, hib⟩ := info_of_byt hb
          rw [hi] at hi2
          cases hi2
          obtain ⟨i3, hi3, his⟩ := info_of_size (P := P) (t := e) hpos
          rw [hi] at hi3
          cases hi3
          have hzx : ∀ x ∈ xs, (cells x).length = i.size := by
            intro q hq
            have := List.all_eq_true.1 hszx q hq
            rw [his]
            simpa using this
          have hzy : ∀ x ∈ ys, (cells x).length = i.size := by
            intro q hq
            have := List.all_eq_true.1 hszy q hq
            rw [his]
            simpa using this
          have hlen : xs.length + ys.length ≤ 140737488355328 := Nat.le_trans (Nat.le_mul_of_pos_right _ hb0) hbound
          -- the source
          have hsource : ∃ (m : Nat) (news : List Value), ASrc P i.size i.bytes z tx (a.eval x) m news w ∧ m = ys.length ∧ CRep w fr news (flat ys) := by
            unfold appSrc at hsrc
            have hx := h.ev x
            split at hsrc
            · rename_i ys' e' hp hu
              cases hsrc
              rw [hp] at hx
              obtain ⟨A, cap, sz, us, ev, hcap, hsz, ha, h1, hh⟩ := slice_inv (inv_d hx)
              have hesz : 0 < ys.length → sz = i.size := by
                intro h0
                obtain ⟨q, hq⟩ := List.exists_mem_of_length_pos h0
                rw [← hsz q hq, hzy q hq]
              have hog : ∀ k, k < ys.length * i.size → ((List.range (ys.length * i.size)).map us)[k]? = some (us k) := by
                intro k hk
                simp [hk]
              have hfc : ∀ w2 : World, w2.heap = w.heap → (Builtin.firstCells i.size ys.length (.slice A ys.length cap)).run P w2 = .ok ((List.range (ys.length * i.size)).map us).toArray w2 := by
                intro w2 hw2
                rcases Nat.eq_zero_or_pos ys.length with h0 | h0
                · rw [h0, Nat.zero_mul]
                  cases A with
                  | none => simp [Builtin.firstCells]
                  | some ad => simp [Builtin.firstCells, loadCells, loadCellsFrom]
                · obtain ⟨ad, rfl, hsp, hf, hcc⟩ := ha h0
                  refine run_firstCells_some w2 i.size ys.length ad ys.length cap _ (by simp) fun j u hj => ?_
                  have hjl : j < ys.length * i.size := by
                    have := (List.getElem?_eq_some_iff.1 hj).1
                    simpa using this
                  rw [hog j hjl] at hj
                  cases hj
                  rw [add_off hsp, ← hcc j (by rw [hesz h0]; exact hjl)]
                  simp only [World.cell?, hw2]
              refine ⟨ys.length, (List.range (ys.length * i.size)).map us, ?_, rfl, ?_⟩
              · rw [ev]
                exact .row _ hu (by simp) rfl rfl (hfc w rfl) (hfc w.drew rfl)
              · refine ⟨by simp [flat_length hzy], fun u hu => ?_, fun k u p hu hp => ?_⟩
                · simp only [List.mem_map, List.mem_range] at hu
                  obtain ⟨k, hk, rfl⟩ := hu
                  have h0 : 0 < ys.length := by
                    rcases Nat.eq_zero_or_pos ys.length with h0 | h0
                    · rw [h0, Nat.zero_mul] at hk; omega
                    · exact h0
                  exact h1 k (by rw [hesz h0]; exact hk)
                · have hk : k < ys.length * i.size := by
                    have := (List.getElem?_eq_some_iff.1 hu).1
                    simpa using this
                  rw [hog k hk] at hu
                  cases hu
                  exact hh k p hp
            · rename_i st hp hu
              cases hsrc
              rw [hp] at hx
              have ev := inv_str hx
              have hfl : flat (st.map fun b => DV.int .u8 b.toNat) = st.map fun b => DV.int .u8 b.toNat := by
                clear hzy hszy hbound hlen hp hx ev
                induction st with
                | nil => rfl
                | cons b st ih => rw [List.map_cons, flat_cons, ih]; rfl
              have hfc : ∀ w2 : World, (Builtin.firstCells i.size st.length (.string ⟨st.toArray⟩)).run P w2 = .ok (st.map fun b => Value.int .u8 b.toNat).toArray w2 := by
                intro w2
                have hex : (ByteArray.mk st.toArray).extract 0 st.length = ByteArray.mk st.toArray := by
                  apply ByteArray.ext
                  simp
                simp only [Builtin.firstCells, hex, Sem.run_pure]
                congr 1
                simp
              refine ⟨st.length, st.map fun b => .int .u8 b.toNat, ?_, by simp, ?_⟩
              · rw [ev]
                refine .row _ hu (by simp) ?_ ?_ (hfc w) (hfc w.drew)
                · simp [Builtin.lenOf, str_size]
                · simp [Builtin.lenOf, str_size]
              · rw [hfl]
                refine ⟨by simp, fun u hu => ?_, fun k u p hu hp => ?_⟩
                · simp only [List.mem_map] at hu
                  obtain ⟨b, _, rfl⟩ := hu
                  rfl
                · rw [List.getElem?_map] at hu hp
                  cases hk : st[k]? with
                  | none => rw [hk] at hu; cases hu
                  | some b =>
                    rw [hk] at hu hp
                    cases hu
                    cases hp
                    exact .int _ _
            · rename_i k n kn hp hu
              rw [hp] at hx
              have ev := inv_int hx
              rw [hz] at hsrc
              simp only at hsrc
              split at hsrc
              · rename_i hn
                cases hsrc
                obtain ⟨m, rfl⟩ := Int.eq_ofNat_of_zero_le hn.1
                have hzc : z.cells = #[z] := by
                  have := hn.2.2
                  cases z <;> first | rfl | simp [Value.oneCell'] at this
                have hi1 : i.size = 1 := by rw [his, ← hzs, hzc]; rfl
                have hrep : (Builtin.zeroCells z.cells m).toList = List.replicate m z := by
                  rw [hzc]
                  apply List.ext_getElem?
                  intro q
                  simp [Builtin.zeroCells, Nat.mod_one]
                  by_cases hq : q < m <;> simp [hq]
                have hcz : cells (ofConstD z) = [ofConstD z] := by
                  have := hn.2.2
                  cases z <;> first | rfl | (simp [Value.oneCell'] at this; done) | (unfold ofConstD; split <;> rfl)
                refine ⟨m, List.replicate m z, ?_, by simp, ?_⟩
                · rw [ev]
                  refine .zeros kn k hu rfl hn.2.1 ?_ (by omega) hrep.symm
                  have hl : (List.replicate (m : Int).toNat (ofConstD z)).length = m := by simp
                  rw [hl] at hbound
                  have : m * by_ ≤ (xs.length + m) * by_ := Nat.mul_le_mul_right _ (by omega)
                  rw [hib]
                  omega
                · have hf : flat (List.replicate (m : Int).toNat (ofConstD z)) = List.replicate m (ofConstD z) := by
                    have e : (m : Int).toNat = m := by simp
                    rw [e]
                    clear hrep hbound hlen hn ev hu hx hp hzy hszy
                    induction m with
                    | zero => rfl
                    | succ m ih => rw [List.replicate_succ, flat_cons, ih (by simp), hcz]; rfl
                  rw [hf]
                  refine ⟨by simp, fun u hu => ?_, fun q u p hu hp => ?_⟩
                  · rw [List.eq_of_mem_replicate hu]; exact hn.2.2
                  · have hq : q < m := by
                      have := (List.getElem?_eq_some_iff.1 hu).1
                      simpa using this
                    simp [hq] at hu hp
                    subst hu hp
                    exact ofConstD_rep hn.2.2
              · cases hsrc
            · cases hsrc
          obtain ⟨m, news, hA, hm, hR⟩ := hsource
          obtain ⟨v, w', fr', hrun, hS⟩ := h.append (P := P) (ty := o.type) hd hs hown (under_of_el ht) hi hiz (by rw [hzs, his]) (by omega) hA hm hR hzx hzy (by omega) (by rw [hib]; exact hbound)
          refine ⟨w', fr', β, .inl ⟨v, ?_, hS⟩⟩
          have hrun' : (Builtin.append_ #[t, tx] o.type #[a.eval (.tmp s), a.eval x]).run P w = .ok v w' := hrun
          simp only [execOp, ho, resolve, invoke, builtin, Sem.run_bind, Sem.run_pure, Result.andThen_ok, List.map_toArray, List.map_cons, List.map_nil, hrun']
        · cases he
      · cases he
    · cases he
  · cases he


theorem does_value (h : Sim N tch w0 fr0 S a w fr β) {o : Oper} {r : PV × Bool} (hd : ∀ d, o.dst = some d → d < N) (he : effV P S o = some r) : Does P N tch w0 fr0 ((⟨o.dst, r.1, fun _ => r.2, fun _ => false, none⟩ : Eff).apply S) o a w := by
  obtain ⟨r, b⟩ := r
  obtain ⟨v, w', fr', hrun, hfx, hr, hb⟩ := effV_sound h he
  have hS := h.fresh hfx
  refine ⟨w', fr', β, .inl ⟨v, hrun, ?_⟩⟩
  cases b with
  | false => exact hS.put0 o.dst v r hd hr
  | true =>
    obtain ⟨A, n, xs, rfl, rfl⟩ := hb rfl
    exact hS.put1 o.dst A n xs hd (inv_d hr)

theorem effF_sound (h : Sim N tch w0 fr0 S a w fr β) {tr : List Nat} {o : Oper} {E : Eff} (he : effF P N tr S o = some E) : Does P N tch w0 fr0 (E.apply S) o a w := by
  unfold effF at he
  split at he
  · rename_i hdst
    have hd : ∀ d, o.dst = some d → d < N := by
      intro d e
      unfold dstOk at hdst
      rw [e] at hdst
      simpa using hdst
    split at he
    · rename_i ho; cases he; exact does_mv h hd (.inr ho)
    · rename_i ho; cases he; exact does_mv h hd (.inl ho)
    · rename_i ho
      split at he
      · split at he
        · rename_i hs
          split at he
          · cases he
          · rename_i hpt hp
            cases he
            exact does_extract h hd ho hs hp (fun q e => by subst e; exact hpt q rfl)
          · cases he
        · cases he
      · cases he
    · rename_i t x ho
      split at he
      · rename_i r hl
        obtain ⟨v, hrun, hr, hcell⟩ := load_sound h hl
        have hrun' : (execOp a.eval o).run P w = .ok (.value v) w := by simp [execOp, ho, hrun]
        split at he
        · split at he
          · rename_i n g off hx hagg
            cases he
            obtain ⟨e1, e2, hgn⟩ := hcell n g off hx hagg
            refine ⟨w, fr, β, .inl ⟨v, hrun', ?_⟩⟩
            have hvp : S.own (.b n off) = true → vpart v 0 = v ∧ r.part 0 = r := by
              intro ho
              obtain ⟨xs, e, hh⟩ := h.own (.b n off) ho
              rw [← e1] at hh
              rw [← e2] at e
              subst e
              rcases hh with ⟨A, n', rfl⟩ | ⟨b, c, cur, E, sz, rfl, _⟩ <;> exact ⟨rfl, rfl⟩
            refine h.putv ⟨o.dst, r, fun j => j == 0 && S.own (.b n off), fun l => l == .b n off, none⟩ rfl v hd hr (fun j hj => ?_) (fun j hj b hb l hl' hc => ?_) (fun j j' hj hj' hne => ?_)
            · simp at hj
              obtain ⟨rfl, ho⟩ := hj
              obtain ⟨q1, q2⟩ := hvp ho
              rw [q1, q2, e1, e2]
              exact h.own _ ho
            · simp at hj
              obtain ⟨rfl, ho⟩ := hj
              obtain ⟨q1, q2⟩ := hvp ho
              rw [q1, e1] at hb
              exact h.oinj (.b n off) l ho hl' (fun e => by subst e; simp at hc) b hb
            · simp at hj hj'
              omega
          · cases he
        · cases he
          exact ⟨w, fr, β, .inl ⟨v, hrun', h.put0 o.dst v r hd hr⟩⟩
      · cases he
    · rename_i e ho
      split at he
      · rename_i d z hdd hz
        split at he
        · rename_i hall
          cases he
          exact does_alloc h (hd d hdd) hdd ho hz hall
        · cases he
      · cases he
    · rename_i e x ho
      split at he
      · rename_i d cs hdd hc
        cases he
        exact does_box h (hd d hdd) hdd ho hc
      · cases he
    · rename_i t l c ho
      split at he
      · rename_i d e k n k' m hdd ht hl hc
        split at he
        · rename_i z by_ hz hb
          split at he
          · rename_i hcond
            obtain ⟨rfl, h0, hn, hnb, hs, h1⟩ := hcond
            cases he
            exact does_makeSlice h (hd d hdd) hdd ho ht hl hc hz hb h0 hn hnb hs h1
          · cases he
        · cases he
      · cases he
    · rename_i t x v ho
      split at he
      · rename_i n g off cs hdd hx hc
        split at he
        · rename_i hcond
          obtain ⟨hg, hsz, hpos, hle⟩ := hcond
          obtain ⟨hrun, hl, hgn, hrep⟩ := store_run (P := P) h hdd ho hx hc hg hsz hpos hle
          split at he
          · rename_i s
            cases he
            refine ⟨_, fr, β, .inr ⟨hrun, ?_⟩⟩
            rw [hdd, hg]
            refine h.setBox hgn _ cs (slotOf s) _ (fun _ _ => rfl) hl hle hrep (fun k hk => ?_)
            split at hk
            · rename_i hin
              simp only [Bool.and_eq_true, beq_iff_eq] at hk
              obtain ⟨⟨h1, hos⟩, hsl⟩ := hk
              have hk0 : k = off := by omega
              refine .inr ⟨0, .t s 0, by omega, by omega, .inr ⟨hos, by simp [slotOf], h1, ?_, ?_⟩⟩
              · obtain ⟨xs, e, hh⟩ := h.own (.t s 0) hos
                have hv : vat a w β (.t s 0) = a.tmps.getD s undef ∨ True := .inr trivial
                -- the slot holds a slice
                have hsv : ∃ ys, S.t s = .d (.slice ys) := by
                  cases hst : S.t s with
                  | d x => 
                    cases x with
                    | slice ys => exact ⟨ys, rfl⟩
                    | _ => simp [PS.ev, hst] at hsl
                  | _ => simp [PS.ev, hst] at hsl
                obtain ⟨ys, hys⟩ := hsv
                have hvs := h.vals s
                rw [hys] at hvs
                obtain ⟨A, cap, sz, us, ev, _⟩ := slice_inv (inv_d hvs)
                simp only [Act.eval, vat, ev]
                rfl
              · have hsv : ∃ ys, S.t s = .d (.slice ys) := by
                  cases hst : S.t s with
                  | d x => 
                    cases x with
                    | slice ys => exact ⟨ys, rfl⟩
                    | _ => simp [PS.ev, hst] at hsl
                  | _ => simp [PS.ev, hst] at hsl
                obtain ⟨ys, hys⟩ := hsv
                simp only [PS.ev, hys, pcells, cells, Option.some.injEq] at hc
                subst hc
                simp [PS.at, hys, PV.part]
            · rename_i hout
              exact .inl ⟨by omega, hk⟩
          · rename_i v hnt
            cases he
            refine ⟨_, fr, β, .inr ⟨hrun, ?_⟩⟩
            rw [hdd, hg]
            refine h.setBox hgn _ cs (fun _ => false) _ (fun _ _ => rfl) hl hle hrep (fun k hk => ?_)
            split at hk
            · rename_i hin
              split at hk
              · rename_i c
                have hcn := isNilV_eq hk
                subst hcn
                have hcs : cs = [.d (.slice [])] := by
                  simp [PS.ev, ofConst, ofConstD, pcells, cells] at hc
                  exact hc.symm
                subst hcs
                simp at hin
                refine .inr ⟨0, .t 0 0, by omega, by simp, .inl ⟨rfl, rfl⟩⟩
              · cases hk
            · rename_i hout
              exact .inl ⟨by omega, hk⟩
        · cases he
      · cases he
    · rename_i args ts ho
      exact does_append h hd ho he
    · simp only [Option.map_eq_some_iff] at he
      obtain ⟨r, hr, rfl⟩ := he
      exact does_value h hd hr
  · cases he
end

end BoEng
