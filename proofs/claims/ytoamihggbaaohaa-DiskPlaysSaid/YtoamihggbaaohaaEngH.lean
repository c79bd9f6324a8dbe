/- The quiet operations, the rest; all of them in one theorem. -/
import Derived.Test.YtoamihggbaaohaaEngG
namespace BoEng
open Go Go.RowKit

theorem grownCap_ge (w : World) (need old : Nat) (e : TypeId) : need ≤ grownCap w need old e := Nat.le_add_right _ _

section
variable {P : Program} {N : Nat} {tch : Env} {w0 : World} {fr0 : Nat → Option Nat} {S : PS} {a : Act} {w : World} {fr : Nat → Option Nat} {β : Nat → Blk}

theorem val_pick (h : Sim N tch w0 fr0 S a w fr β) {o : Oper} {c x y : Operand} {r : PV} {b : Bool} (ho : o.op = .pick c x y) (he : effV P S o = some (r, b)) : Val P S o a w fr β r b := by
  simp only [effV, ho] at he
  have hc := h.ev c
  split at he
  · rename_i t hp
    rw [hp] at hc
    cases he
    refine Val.of h (s := do pure (if ← asBool (a.eval c) then a.eval x else a.eval y)) (by simp [execOp, ho]) (v := if t then a.eval x else a.eval y) ?_ ?_
    · rw [inv_bool hc]
      rfl
    · cases t
      · exact h.ev y
      · exact h.ev x
  · cases he

theorem val_nilCheck (h : Sim N tch w0 fr0 S a w fr β) {o : Oper} {x : Operand} {r : PV} {b : Bool} (ho : o.op = .nilCheck x) (he : effV P S o = some (r, b)) : Val P S o a w fr β r b := by
  simp only [effV, ho] at he
  have hx := h.ev x
  split at he
  · rename_i n g oo hp
    cases he
    rw [hp] at hx
    refine ⟨a.eval x, w, fr, ?_, h.freshRefl, hx, by simp⟩
    generalize hu : a.eval x = u at hx
    cases hx
    simp [execOp, ho, hu]
  · rename_i cs hp
    cases he
    rw [hp] at hx
    refine ⟨a.eval x, w, fr, ?_, h.freshRefl, hx, by simp⟩
    generalize hu : a.eval x = u at hx
    cases hx
    simp [execOp, ho, hu]
  · cases he

theorem val_binOp (h : Sim N tch w0 fr0 S a w fr β) {o : Oper} {op : BinOp} {t t' : TypeId} {x y : Operand} {r : PV} {b : Bool} (ho : o.op = .binOp op t x y t') (he : effV P S o = some (r, b)) : Val P S o a w fr β r b := by
  simp only [effV, ho, Option.map_eq_some_iff] at he
  obtain ⟨r', hr, he⟩ := he
  cases he
  obtain ⟨z, hz, hzr⟩ := run_pbin (P := P) (w := w) (x := x) (y := y) (h.ev x) (h.ev y) hr
  exact Val.of h (s := do eqGuard op t x y (a.eval x) (a.eval y); binOp op t (a.eval x) (a.eval y)) (by simp [execOp, ho]) hz hzr

theorem val_unOp (h : Sim N tch w0 fr0 S a w fr β) {o : Oper} {op : UnOp} {t : TypeId} {x : Operand} {r : PV} {b : Bool} (ho : o.op = .unOp op t x) (he : effV P S o = some (r, b)) : Val P S o a w fr β r b := by
  simp only [effV, ho, Option.map_eq_some_iff] at he
  obtain ⟨r', hr, he⟩ := he
  cases he
  obtain ⟨z, hz, hzr⟩ := run_pun (P := P) (w := w) (h.ev x) hr
  exact Val.of h (s := Op.unary op (a.eval x)) (by simp [execOp, ho]) hz hzr

theorem val_makeFunc (h : Sim N tch w0 fr0 S a w fr β) {o : Oper} {f : FuncId} {first caps : Array Operand} {r : PV} {b : Bool} (ho : o.op = .makeFunc (.func f) first caps) (he : effV P S o = some (r, b)) : Val P S o a w fr β r b := by
  simp only [effV, ho] at he
  split at he
  · rename_i h0
    cases he
    obtain rfl : first = #[] := Array.eq_empty_of_size_eq_zero h0
    refine Val.of h (s := Instr.makeFunc (.func f) #[] (caps.map a.eval)) (by simp [execOp, ho]) (v := .func (.func f) #[] (caps.toList.map a.eval).toArray) ?_ ?_
    · rw [List.map_toArray]
      rfl
    · refine .fn f _ _ (by simp) fun k v p hv hp => ?_
      rw [List.getElem?_map] at hv hp
      cases hk : caps.toList[k]? with
      | none => rw [hk] at hv; cases hv
      | some c =>
        rw [hk] at hv hp
        cases hv
        cases hp
        exact h.ev c
  · cases he

theorem val_convert (h : Sim N tch w0 fr0 S a w fr β) {o : Oper} {src dst : TypeId} {x : Operand} {r : PV} {b : Bool} (ho : o.op = .convert src dst x) (he : effV P S o = some (r, b)) : Val P S o a w fr β r b := by
  simp only [effV, ho] at he
  have hx := h.ev x
  split at he
  · rename_i k0 k k' n hs hd hp
    cases he
    rw [hp] at hx
    refine Val.of h (s := convert src dst (a.eval x)) (by simp [execOp, ho]) (v := .int k (k.wrap n)) ?_ (.d _ _ (.int _ _))
    rw [inv_int hx]
    simp [convert, underlying, hs, hd, Conv.intToInt]
  · rename_i s hs hd hp
    cases he
    rw [hp] at hx
    refine Val.of h (s := convert src dst (a.eval x)) (by simp [execOp, ho]) (v := .string ⟨s.toArray⟩) ?_ (.d _ _ (.str _))
    rw [inv_str hx]
    simp [convert, underlying, hs, hd]
  · rename_i e xs hs hd hp
    rw [hp] at hx
    split at he
    · rename_i hu8
      simp only [Option.map_eq_some_iff] at he
      obtain ⟨s, hb, he⟩ := he
      cases he
      obtain ⟨ns, rfl, rfl⟩ := toBytes_spec _ _ hb
      obtain ⟨A, cap, sz, us, ev, hcap, hsz, ha, h1, hh⟩ := slice_inv (inv_d hx)
      refine Val.of h (s := convert src dst (a.eval x)) (by simp [execOp, ho]) (v := .string (strOfNums ns)) ?_ (.d _ _ (.str _))
      rw [ev]
      have hl : (ns.map (DV.int .u8)).length = ns.length := by simp
      rcases Nat.eq_zero_or_pos ns.length with h0 | h0
      · obtain rfl : ns = [] := List.eq_nil_of_length_eq_zero h0
        cases A with
        | none => exact run_convert_bytes_nil w src e hs hu8 _ _ dst hd
        | some ad =>
          have := run_convert_bytes_arg w src e hs hu8 ad.block ad.off 0 cap [] rfl (by simp) dst hd
          have hload : ∀ (ad : Addr), (convert src dst (.slice (some ad) 0 cap)).run P w = .ok (.string (strOfNums [])) w := by
            intro ad
            simp [convert, underlying, hs, hd, hu8, Conv.bytesToString, loadCells, loadCellsFrom, strOfNums]
            rfl
          exact hload ad
      · obtain ⟨ad, rfl, hsp, hf, hc⟩ := ha (by rw [hl]; exact h0)
        have e1 : sz = 1 := by
          obtain ⟨n, hn⟩ := List.exists_mem_of_length_pos h0
          have := hsz (.int .u8 n) (List.mem_map_of_mem hn)
          simpa [cells] using this.symm
        subst e1
        obtain ⟨bl, of, sp⟩ := ad
        simp only at hsp
        subst hsp
        rw [hl]
        refine run_convert_bytes_arg w src e hs hu8 bl of ns.length cap ns rfl (fun i hi => ?_) dst hd
        have hci := hc i (by simpa using hi)
        rw [hci]
        have hfl : (flat (ns.map (DV.int .u8)))[i]? = some (.int .u8 (ns.getD i 0)) := by
          have := flat_at hsz i (.int .u8 (ns.getD i 0)) (by simp [hi, List.getD_eq_getElem?_getD]) 0 (by omega)
          simpa [cells] using this
        have := hh i _ hfl
        generalize us i = u at this ⊢
        cases this
        rfl
    · cases he
  · rename_i e s hs hd hp
    rw [hp] at hx
    split at he
    · rename_i hu8
      split at he
      · rename_i hsz1
        cases he
        have hev := inv_str hx
        refine ⟨.slice (some ⟨w.heap.size, 0, none⟩) (ByteArray.mk s.toArray).size (grownCap w (ByteArray.mk s.toArray).size 0 e), Lib.bytesWorld w e ⟨s.toArray⟩, fr, ?_, ?_, .d _ _ ?_, by simp⟩
        · have := Lib.run_convert_string_bytes (P := P) w src dst e ⟨s.toArray⟩ hs hd hu8
          simp only [execOp, ho, hev]
          simp only [Sem.run_bind, this, Result.andThen_ok, Sem.run_pure]
        · refine ⟨rfl, rfl, rfl, by rw [Lib.bytesWorld_size]; omega, fun b hb => Lib.bytesWorld_at_old w e _ b hb, fun _ _ => rfl, fun b f hf => ?_⟩
          have := h.frb b f hf
          rw [Lib.bytesWorld_size]
          omega
        · have hl : (s.map fun b => DV.int .u8 b.toNat).length = (ByteArray.mk s.toArray).size := by simp [ByteArray.size]
          rw [← hl]
          have hz : ∀ x ∈ (s.map fun b => DV.int .u8 b.toNat), (cells x).length = 1 := by
            intro x hx
            simp only [List.mem_map] at hx
            obtain ⟨b, _, rfl⟩ := hx
            rfl
          refine .slice _ _ 1 (fun k => .int .u8 (s.getD k 0).toNat) _ ?_ hz (fun h0 => ⟨_, rfl, rfl, fun f hf => ?_, fun k hk => ?_⟩) (fun k hk => rfl) (fun k p hp => ?_)
          · rw [hl]
            exact grownCap_ge _ _ _ _
          · have := h.frb _ _ hf
            simp at this
          · have hk' : k < (ByteArray.mk s.toArray).size := by rw [← hl]; simpa using hk
            have := Lib.bytesWorld_cell w e ⟨s.toArray⟩ k hk'
            simpa using this
          · have hk : k < s.length := by
              have := (List.getElem?_eq_some_iff.1 hp).1
              rw [flat_length hz] at this
              simpa using this
            have := flat_at hz k (.int .u8 (s.getD k 0).toNat) (by simp [hk, List.getD_eq_getElem?_getD]) 0 (by omega)
            simp [cells] at this
            rw [this] at hp
            cases hp
            simp only [List.getD_eq_getElem?_getD]
            exact .int _ _
      · cases he
    · cases he
  · cases he

theorem val_len (h : Sim N tch w0 fr0 S a w fr β) {o : Oper} {args : Array Operand} {ts : Array TypeId} {r : PV} {b : Bool} (ho : o.op = .call ⟨.builtin .len, args, ts⟩) (he : effV P S o = some (r, b)) : Val P S o a w fr β r b := by
  simp only [effV, ho] at he
  split at he
  · rename_i x t hx ht
    obtain rfl : args = #[x] := by rw [← Array.toArray_toList (xs := args), hx]
    obtain rfl : ts = #[t] := by rw [← Array.toArray_toList (xs := ts), ht]
    have hv := h.ev x
    have hrun : ∀ n : Int, (Builtin.len_ #[t] o.type #[a.eval x]).run P w = .ok (goInt n) w → (execOp a.eval o).run P w = .ok (.value (.int .i64 n)) w := by
      intro n hn
      simp only [execOp, ho, resolve, invoke, builtin, Sem.run_bind, Sem.run_pure, Result.andThen_ok, List.map_toArray, List.map_cons, List.map_nil, hn]
      rfl
    split at he
    · rename_i e xs hu hp
      cases he
      rw [hp] at hv
      obtain ⟨A, cap, sz, us, ev, _⟩ := slice_inv (inv_d hv)
      exact ⟨_, w, fr, hrun xs.length (by rw [ev]; simp [Builtin.len_, underlying, hu]), h.freshRefl, .d _ _ (.int _ _), by simp⟩
    · rename_i e n g l sz ag hu hp
      cases he
      rw [hp] at hv
      obtain ⟨A, cap, ev, _⟩ := inv_bsl hv
      exact ⟨_, w, fr, hrun l (by rw [ev]; simp [Builtin.len_, underlying, hu]), h.freshRefl, .d _ _ (.int _ _), by simp⟩
    · rename_i s hu hp
      cases he
      rw [hp] at hv
      exact ⟨_, w, fr, hrun s.length (by rw [inv_str hv]; simp [Builtin.len_, underlying, hu, str_size]), h.freshRefl, .d _ _ (.int _ _), by simp⟩
    · cases he
  · cases he

theorem mmGo_spec (mx : Bool) (k : IntKind) : ∀ (ps : List PV) (n : Int) (r : PV), mmGo mx k n ps = some r → ∀ (vs : List Value), vs.length = ps.length →
    (∀ (i : Nat) (v : Value) (p : PV), vs[i]? = some v → ps[i]? = some p → PRep w fr β S.gen v p) →
    ∃ m, r = .d (.int k m) ∧ (vs.foldlM (if mx then Builtin.max2 else Builtin.min2) (.int k n)).run P w = .ok (.int k m) w
  | [], n, r, h, vs, hl, hh => by
    obtain rfl : vs = [] := List.eq_nil_of_length_eq_zero hl
    simp [mmGo] at h
    exact ⟨n, h.symm, rfl⟩
  | p :: ps, n, r, h, [], hl, hh => by simp at hl
  | p :: ps, n, r, h, v :: vs, hl, hh => by
    unfold mmGo at h
    split at h
    · rename_i heq
      cases heq
    · rename_i x k' b' rest heq
      cases heq
      split at h
      · rename_i e
        subst e
        have hv := inv_int (hh 0 v _ rfl rfl)
        subst hv
        obtain ⟨m, hm, hr⟩ := mmGo_spec mx k ps _ r h vs (by simpa using hl) fun i v p hv hp => hh (i + 1) v p (by simpa using hv) (by simpa using hp)
        refine ⟨m, hm, ?_⟩
        rw [List.foldlM_cons]
        simp only [Sem.run_bind]
        cases mx
        · simp only [Bool.false_eq_true, if_false] at hr ⊢
          simp only [Builtin.min2, Sem.run_pure, Result.andThen_ok]
          exact hr
        · simp only [if_true] at hr ⊢
          simp only [Builtin.max2, Sem.run_pure, Result.andThen_ok]
          exact hr
      · cases h
    · cases h

theorem val_minmax (h : Sim N tch w0 fr0 S a w fr β) {o : Oper} {mx : Bool} {args : Array Operand} {ts : Array TypeId} {r : PV} (ho : o.op = .call ⟨.builtin (if mx then .max else .min), args, ts⟩) (he : minmax mx (args.toList.map S.ev) = some r) : Val P S o a w fr β r false := by
  unfold minmax at he
  split at he
  · rename_i k n rest hps
    cases hargs : args.toList with
    | nil => rw [hargs] at hps; cases hps
    | cons x xs =>
      rw [hargs] at hps
      simp only [List.map_cons, List.cons.injEq] at hps
      obtain ⟨hx, rfl⟩ := hps
      obtain rfl : args = (x :: xs).toArray := by rw [← hargs, Array.toArray_toList]
      have hv := h.ev x
      rw [hx] at hv
      obtain ⟨m, rfl, hm⟩ := mmGo_spec (P := P) (w := w) (fr := fr) (β := β) mx k (xs.map S.ev) n r he (xs.map a.eval) (by simp) fun i v p hv hp => by
        rw [List.getElem?_map] at hv hp
        cases hk : xs[i]? with
        | none => rw [hk] at hv; cases hv
        | some c =>
          rw [hk] at hv hp
          cases hv
          cases hp
          exact h.ev c
      refine ⟨.int k m, w, fr, ?_, h.freshRefl, .d _ _ (.int _ _), by simp⟩
      cases mx
      · simp only [Bool.false_eq_true, if_false] at ho hm
        simp only [execOp, ho, resolve, invoke, builtin, Sem.run_bind, Sem.run_pure, Result.andThen_ok, List.map_toArray, List.map_cons, Builtin.min_, inv_int hv, hm]
      · simp only [if_true] at ho hm
        simp only [execOp, ho, resolve, invoke, builtin, Sem.run_bind, Sem.run_pure, Result.andThen_ok, List.map_toArray, List.map_cons, Builtin.max_, inv_int hv, hm]
  · cases he
end

end BoEng
