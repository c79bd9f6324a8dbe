/- Values that write nothing: the model comes to them. -/
import Derived.Test.YtoamihggbaaohaaEngD
import Derived.Laws.Small
import Derived.Laws.StructEq
namespace BoEng
open Go Go.RowKit

section inv
variable {w : World} {fr : Nat → Option Nat} {β : Nat → Blk} {gen : Nat → Nat} {v : Value}
theorem inv_int {k : IntKind} {n : Int} (h : PRep w fr β gen v (.d (.int k n))) : v = .int k n := by
  cases h with | d v x h => cases h; rfl
theorem inv_bool {b : Bool} (h : PRep w fr β gen v (.d (.bool b))) : v = .bool b := by
  cases h with | d v x h => cases h; rfl
theorem inv_str {s : List UInt8} (h : PRep w fr β gen v (.d (.str s))) : v = .string ⟨s.toArray⟩ := by
  cases h with | d v x h => cases h; rfl
theorem inv_d {x : DV} (h : PRep w fr β gen v (.d x)) : DRep w fr v x := by cases h; assumption
theorem inv_ptr {n g o : Nat} (h : PRep w fr β gen v (.ptr n g o)) (hg : g = gen n) : v = .pointer (some ⟨(β n).b, o, none⟩) ∧ 0 < g := by
  cases h with | ptr a n g o h0 hle hs h => exact ⟨by rw [h hg], h0⟩
theorem inv_bsl {n g l sz : Nat} {ag : Bool} (h : PRep w fr β gen v (.bsl n g l sz ag)) : ∃ A cap, v = .slice A l cap ∧ 0 < g ∧ 0 < sz ∧ (g = gen n → (0 < (β n).c → A = some ⟨(β n).b, 0, none⟩) ∧ l ≤ cap ∧ cap * sz = (β n).c) := by
  cases h with | bsl A n g l sz cap ag h0 hle hs h => exact ⟨A, cap, rfl, h0, hs, h⟩
theorem inv_pa {cs : List PV} (h : PRep w fr β gen v (.pa cs)) : ∃ vs : List Value, v = .agg vs.toArray ∧ vs.length = cs.length ∧ (∀ u ∈ vs, one u) ∧ ∀ (k : Nat) (u : Value) (p : PV), vs[k]? = some u → cs[k]? = some p → PRep w fr β gen u p := by
  cases h with | pa vs cs hl h1 h => exact ⟨vs, rfl, hl, h1, h⟩
end inv

theorem ofConstD_rep {w : World} {fr : Nat → Option Nat} {v : Value} (h : one v) : DRep w fr v (ofConstD v) := by
  unfold ofConstD
  split
  · exact .int _ _
  · exact .bool _
  · rename_i s
    have := DRep.str (w := w) (fr := fr) s.data.toList
    simpa using this
  · exact .slice none 0 0 (fun _ => undef) [] (Nat.le_refl _) (by simp) (by simp) (by simp) (by simp [flat])
  · rename_i v h1 h2 h3 h4
    exact .opq _ (fun b e => h2 b e) h

theorem ofConst_rep {w : World} {fr : Nat → Option Nat} {β : Nat → Blk} {gen : Nat → Nat} (v : Value) : PRep w fr β gen v (ofConst v) := by
  unfold ofConst
  split
  · rename_i vs
    split
    · rename_i hall
      simp only [List.all_eq_true] at hall
      have := DRep.agg (w := w) (fr := fr) vs.toList (vs.toList.map ofConstD) (by simp) (fun v hv => hall v hv) (fun k v p hv hp => by
        rw [List.getElem?_map, hv] at hp
        simp at hp
        subst hp
        exact ofConstD_rep (hall v (List.mem_of_getElem? hv)))
      exact .d _ _ (by simpa using this)
    · exact .any _ (by simp)
  · rename_i vs
    split
    · rename_i h0
      obtain rfl : vs = #[] := Array.eq_empty_of_size_eq_zero h0
      exact .tup [] [] rfl (by simp)
    · exact .any _ (by simp)
  · rename_i h1 h2
    exact .d _ _ (ofConstD_rep (by cases v <;> first | rfl | exact absurd rfl (h1 _) | exact absurd rfl (h2 _)))

theorem opq_undef {w : World} {fr : Nat → Option Nat} {β : Nat → Blk} {gen : Nat → Nat} : PRep w fr β gen undef .undef := .tup [] [] rfl (by simp)

section
variable {N : Nat} {tch : Env} {w0 : World} {fr0 : Nat → Option Nat} {S : PS} {a : Act} {w : World} {fr : Nat → Option Nat} {β : Nat → Blk}

theorem Sim.ev (h : Sim N tch w0 fr0 S a w fr β) (x : Operand) : PRep w fr β S.gen (a.eval x) (S.ev x) := by
  cases x with
  | tmp t => exact h.vals t
  | const v => exact ofConst_rep v
  | global g => exact .any _ (by simp [Act.eval])
  | func f => exact .fn f [] [] rfl (by simp)
end

/-! ### Types -/
section types
variable {P : Program} {w : World}
theorem szT_eq (t : TypeId) : szT P t = P.cellsOf t := by
  unfold szT Program.cellsOf
  cases h : P.info? t <;> simp [Go.sizeOf, typeInfo, h]
theorem run_size {t : TypeId} (h : 0 < szT P t) : (Go.sizeOf t).run P w = .ok (szT P t) w := by
  rw [szT_eq] at *
  unfold Program.cellsOf at *
  cases hi : P.info? t with
  | none => simp [hi] at h
  | some i => simp [Go.sizeOf, typeInfo, hi]
theorem info_of_size {t : TypeId} (h : 0 < szT P t) : ∃ i, P.info? t = some i ∧ i.size = szT P t := by
  rw [szT_eq] at *
  unfold Program.cellsOf at *
  cases hi : P.info? t with
  | none => simp [hi] at h
  | some i => exact ⟨i, rfl, by simp⟩
theorem info_of_zero {t : TypeId} {z : Value} (h : zeroT P t = some z) : ∃ i, P.info? t = some i ∧ i.zero = some z := by
  unfold zeroT at h
  cases hi : P.info? t with
  | none => simp [typeInfo, hi] at h
  | some i => simp [typeInfo, hi] at h; exact ⟨i, rfl, h⟩
theorem info_of_byt {t : TypeId} {n : Nat} (h : bytT P t = some n) : ∃ i, P.info? t = some i ∧ i.bytes = n := by
  unfold bytT at h
  cases hi : P.info? t with
  | none => simp [typeInfo, hi] at h
  | some i => simp [typeInfo, hi] at h; exact ⟨i, rfl, h⟩
theorem run_isAgg {t : TypeId} {b : Bool} (h : aggT P t = some b) : (isAgg t).run P w = .ok b w := by
  unfold aggT at h
  cases hu : P.underlying t with
  | none => simp [hu] at h
  | some d =>
    simp only [isAgg, Sem.run_bind, underlying, run_program, Result.andThen_ok, hu]
    rw [hu] at h
    cases d <;> simp at h <;> subst h <;> rfl
theorem under_of_el {t e : TypeId} (h : elT P t = some e) : P.underlying t = some (.slice e) := by
  unfold elT at h
  split at h <;> simp_all
theorem under_of_fld {t : TypeId} {f off : Nat} {ft : TypeId} (h : fldT P t f = some (off, ft)) : ∃ fs x, P.underlying t = some (.struct fs) ∧ fs[f]? = some x ∧ x.offset = off ∧ x.type = ft := by
  unfold fldT at h
  split at h
  · rename_i fs hu
    cases hx : fs[f]? with
    | none => simp [hx] at h
    | some x => simp [hx] at h; exact ⟨fs, x, hu, hx, h.1, h.2⟩
  · simp at h
end types

/-! ### Reckoning -/
theorem run_cmpI {P : Program} {w : World} {op : BinOp} {t : TypeId} {k : IntKind} {a b : Int} {c : Bool} (h : cmpI op a b = some c) : (binOp op t (.int k a) (.int k b)).run P w = .ok (.bool c) w := by
  cases op <;> simp only [cmpI, Option.some.injEq, reduceCtorEq] at h <;> subst h <;> simp [binOp, Op.intCmp] <;> rfl
theorem run_arI {P : Program} {w : World} {op : BinOp} {t : TypeId} {k : IntKind} {a b c : Int} (h : arI op k a b = some c) : (binOp op t (.int k a) (.int k b)).run P w = .ok (.int k c) w := by
  cases op <;> simp only [arI, Option.some.injEq, reduceCtorEq] at h <;> first
    | (subst h; simp [binOp, Op.intArith, Op.intBits]; done)
    | (split at h
       · cases h
       · rename_i h0
         simp only [Option.some.injEq] at h
         subst h
         simp [binOp, Op.intDiv, h0])
theorem run_shI {P : Program} {w : World} {op : BinOp} {t : TypeId} {k k' : IntKind} {a b c : Int} (h : shI op k a b = some c) : (binOp op t (.int k a) (.int k' b)).run P w = .ok (.int k c) w := by
  unfold shI at h
  split at h
  · cases h
  · rename_i h0
    cases op <;> simp only [Option.some.injEq, reduceCtorEq] at h <;> subst h <;> simp only [binOp, Op.shift, if_neg h0] <;> rfl
theorem str_list (l : List UInt8) : (ByteArray.mk l.toArray).toList = l := by rw [ByteArray.toList_eq]
theorem str_size (l : List UInt8) : (ByteArray.mk l.toArray).size = l.length := by simp [ByteArray.size]
theorem run_cmpS {P : Program} {w : World} {op : BinOp} {t : TypeId} {a b : List UInt8} {c : Bool} (h : cmpS op a b = some c) : (binOp op t (.string ⟨a.toArray⟩) (.string ⟨b.toArray⟩)).run P w = .ok (.bool c) w := by
  have e : (a == b) = decide (a = b) := by
    by_cases h : a = b <;> simp [h]
  cases op <;> simp only [cmpS, Option.some.injEq, reduceCtorEq] at h <;> subst h <;> simp only [binOp, Op.stringOp, str_list, strLt, e] <;> rfl
theorem run_addS {P : Program} {w : World} {t : TypeId} {a b : List UInt8} (h : a.length + b.length ≤ 9223372036854775807) : (binOp .add t (.string ⟨a.toArray⟩) (.string ⟨b.toArray⟩)).run P w = .ok (.string ⟨(a ++ b).toArray⟩) w := by
  have h3 : ByteArray.mk a.toArray ++ ByteArray.mk b.toArray = ByteArray.mk (a ++ b).toArray := by
    apply ByteArray.ext
    simp
  have h4 : ¬ (IntKind.max .i64 < ((a.length + b.length : Nat) : Int)) := by
    have : IntKind.max .i64 = 9223372036854775807 := rfl
    omega
  simp only [binOp, Op.stringOp, str_size, h3, gt_iff_lt, if_neg h4]
  rfl
theorem run_eqB {P : Program} {w : World} {op : BinOp} {t : TypeId} {a b c : Bool} (ht : P.underlying t = some .bool) (h : eqB op a b = some c) : (binOp op t (.bool a) (.bool b)).run P w = .ok (.bool c) w := by
  cases op <;> simp only [eqB, Option.some.injEq, reduceCtorEq] at h <;> subst h
  · exact run_eql_bool _ _ _ _ ht
  · exact run_neq_bool _ _ _ _ ht

theorem run_eqGuard0 {P : Program} {w : World} {op : BinOp} {t : TypeId} {x y : Operand} {u v : Value} (h : (∀ vs, u ≠ .agg vs) ∧ u ≠ .nilIface) : (eqGuard op t x y u v).run P w = .ok () w := by
  unfold eqGuard
  cases op <;> first
    | rfl
    | (cases u <;> first | rfl | exact absurd rfl (h.1 _) | exact absurd rfl h.2)

theorem inv_agg {w : World} {fr : Nat → Option Nat} {β : Nat → Blk} {gen : Nat → Nat} {v : Value} {cs : List DV} (h : PRep w fr β gen v (.d (.agg cs))) :
    ∃ vs : List Value, v = .agg vs.toArray ∧ vs.length = cs.length ∧ (∀ u ∈ vs, one u) ∧ ∀ (k : Nat) (u : Value) (p : DV), vs[k]? = some u → cs[k]? = some p → DRep w fr u p := by
  cases h with
  | d v x h => cases h with | agg vs cs hl h1 h => exact ⟨vs, rfl, hl, h1, h⟩

theorem run_eqInt2 {P : Program} (w : World) (d : Nat) (t : TypeId) (k k1 : IntKind) (a b : Int) (h : P.underlying t = some (.int k)) : (Op.equalIn (d + 1) t (.int k1 a) (.int k1 b)).run P w = .ok (a == b) w := by
  simp [Op.equalIn, run_underlying h]

theorem run_eqF {P : Program} {w : World} {fr : Nat → Option Nat} {us vs : List Value} {xs ys : List DV} (hl : us.length = xs.length) (hl' : vs.length = ys.length)
    (hu : ∀ (k : Nat) (u : Value) (p : DV), us[k]? = some u → xs[k]? = some p → DRep w fr u p) (hv : ∀ (k : Nat) (u : Value) (p : DV), vs[k]? = some u → ys[k]? = some p → DRep w fr u p) :
    ∀ (fs : List Field) (r : Bool), eqF P xs ys fs = some r → (Op.eqFields 9999 us.toArray vs.toArray fs).run P w = .ok r w
  | [], r, h => by simp [eqF] at h; subst h; rfl
  | f :: fs, r, h => by
    simp only [eqF] at h
    split at h
    · cases h
    · rename_i hn
      simp only [Option.bind_eq_some_iff, Option.map_eq_some_iff] at h
      obtain ⟨b, hb, r', hr', rfl⟩ := h
      have hrest := run_eqF hl hl' hu hv fs r' hr'
      have key : ∃ u v, us[f.offset]? = some u ∧ vs[f.offset]? = some v ∧ aggT P f.type = some false ∧ (Op.equalIn 9999 f.type u v).run P w = .ok b w := by
        unfold eqV at hb
        split at hb
        · rename_i k k1 a k2 c hty hx hy
          split at hb
          · rename_i ek
            subst ek
            cases hb
            have h1 : f.offset < us.length := by rw [hl]; exact (List.getElem?_eq_some_iff.1 hx).1
            have h2 : f.offset < vs.length := by rw [hl']; exact (List.getElem?_eq_some_iff.1 hy).1
            have r1 := hu _ _ _ (List.getElem?_eq_getElem h1) hx
            have r2 := hv _ _ _ (List.getElem?_eq_getElem h2) hy
            have e1 := inv_int (.d (β := fun _ => ⟨0, 0⟩) (gen := fun _ => 0) _ _ r1)
            have e2 := inv_int (.d (β := fun _ => ⟨0, 0⟩) (gen := fun _ => 0) _ _ r2)
            refine ⟨_, _, List.getElem?_eq_getElem h1, List.getElem?_eq_getElem h2, by simp [aggT, hty], ?_⟩
            rw [e1, e2, run_eqInt2 w 9998 f.type k k1 a c hty]
            by_cases h : a = c <;> simp [h]
          · cases hb
        · rename_i a c hty hx hy
          cases hb
          have h1 : f.offset < us.length := by rw [hl]; exact (List.getElem?_eq_some_iff.1 hx).1
          have h2 : f.offset < vs.length := by rw [hl']; exact (List.getElem?_eq_some_iff.1 hy).1
          have r1 := hu _ _ _ (List.getElem?_eq_getElem h1) hx
          have r2 := hv _ _ _ (List.getElem?_eq_getElem h2) hy
          have e1 := inv_bool (.d (β := fun _ => ⟨0, 0⟩) (gen := fun _ => 0) _ _ r1)
          have e2 := inv_bool (.d (β := fun _ => ⟨0, 0⟩) (gen := fun _ => 0) _ _ r2)
          refine ⟨_, _, List.getElem?_eq_getElem h1, List.getElem?_eq_getElem h2, by simp [aggT, hty], ?_⟩
          rw [e1, e2, run_equalIn_bool' w 9998 f.type a c hty]
        · rename_i a c hty hx hy
          cases hb
          have h1 : f.offset < us.length := by rw [hl]; exact (List.getElem?_eq_some_iff.1 hx).1
          have h2 : f.offset < vs.length := by rw [hl']; exact (List.getElem?_eq_some_iff.1 hy).1
          have r1 := hu _ _ _ (List.getElem?_eq_getElem h1) hx
          have r2 := hv _ _ _ (List.getElem?_eq_getElem h2) hy
          have e1 := inv_str (.d (β := fun _ => ⟨0, 0⟩) (gen := fun _ => 0) _ _ r1)
          have e2 := inv_str (.d (β := fun _ => ⟨0, 0⟩) (gen := fun _ => 0) _ _ r2)
          refine ⟨_, _, List.getElem?_eq_getElem h1, List.getElem?_eq_getElem h2, by simp [aggT, hty], ?_⟩
          rw [e1, e2, run_equalIn_string w 9998 f.type _ _ hty, str_list, str_list]
          congr 1
          by_cases h : a = c <;> simp [h]
        · cases hb
      obtain ⟨u, v, hu', hv', ha, he⟩ := key
      have p1 : (part f.type us.toArray f.offset).run P w = .ok u w := by simp [part, run_isAgg ha, hu']
      have p2 : (part f.type vs.toArray f.offset).run P w = .ok v w := by simp [part, run_isAgg ha, hv']
      simp only [Op.eqFields, Sem.run_ite, Sem.run_bind]
      rw [if_pos (by simpa using hn), p1]
      simp only [Result.andThen_ok]
      rw [p2]
      simp only [Result.andThen_ok]
      rw [he]
      simp only [Result.andThen_ok]
      cases b
      · simp
      · simpa using hrest

theorem run_eqA {P : Program} {w : World} {fr : Nat → Option Nat} {β : Nat → Blk} {gen : Nat → Nat} {t : TypeId} {u v : Value} {xs ys : List DV} {r : Bool}
    (hu : PRep w fr β gen u (.d (.agg xs))) (hv : PRep w fr β gen v (.d (.agg ys))) (h : eqA P t xs ys = some r) :
    ∃ us vs, u = .agg us ∧ v = .agg vs ∧ P.eqGuardType P.depth t = false ∧ (Op.equalIn 10000 t (.agg us) (.agg vs)).run P w = .ok r w := by
  obtain ⟨us, rfl, l1, _, r1⟩ := inv_agg hu
  obtain ⟨vs, rfl, l2, _, r2⟩ := inv_agg hv
  unfold eqA at h
  split at h
  · rename_i fs ht
    split at h
    · rename_i hok
      simp only [eqOk, Bool.and_eq_true, Bool.not_eq_true'] at hok
      refine ⟨_, _, rfl, rfl, hok.2, ?_⟩
      have hf : P.fieldsOf t = fs := by simp [Program.fieldsOf, ht]
      rw [run_equalIn_struct w 9999 t us.toArray vs.toArray (by rw [hf]; exact ht) hok.1, hf]
      exact run_eqF l1 l2 r1 r2 _ _ h
    · cases h
  · cases h

theorem run_eqDo {P : Program} {w : World} {t : TypeId} {u v : Value} {r : Bool} (h1 : binOp .eql t u v = (do return .bool (← Op.equal t u v))) (h2 : binOp .neq t u v = (do return .bool (!(← Op.equal t u v))))
    (hb : ∀ d, (Op.equalIn (d + 1) t u v).run P w = .ok r w) : (binOp .eql t u v).run P w = .ok (.bool r) w ∧ (binOp .neq t u v).run P w = .ok (.bool (!r)) w := by
  have h3 : (Op.equal t u v).run P w = .ok r w := hb 9999
  refine ⟨?_, ?_⟩
  · rw [h1]
    simp only [Sem.run_bind, h3, Result.andThen_ok, Sem.run_pure]
  · rw [h2]
    simp only [Sem.run_bind, h3, Result.andThen_ok, Sem.run_pure]

theorem run_nil {P : Program} {w : World} {fr : Nat → Option Nat} {β : Nat → Blk} {gen : Nat → Nat} {t : TypeId} {x y : Operand} {u v : Value} {p q : PV} {r : Bool}
    (hu : PRep w fr β gen u p) (hv : PRep w fr β gen v q) (h : nilCmp (P.underlying t) p q = some r) :
    (∀ op, (eqGuard op t x y u v).run P w = .ok () w) ∧ (binOp .eql t u v).run P w = .ok (.bool r) w ∧ (binOp .neq t u v).run P w = .ok (.bool (!r)) w := by
  have nilp : ∀ {v : Value}, PRep w fr β gen v (.d (.opq (.pointer none))) → v = .pointer none := by
    intro v h
    cases inv_d h
    rfl
  have nilf : ∀ {v : Value}, PRep w fr β gen v (.d (.opq .nilFunc)) → v = .nilFunc := by
    intro v h
    cases inv_d h
    rfl
  have ge : ∀ (op : BinOp) (u v : Value), (∀ vs, u ≠ .agg vs) ∧ u ≠ .nilIface → (eqGuard op t x y u v).run P w = .ok () w := fun op u v h => run_eqGuard0 h
  unfold nilCmp at h
  split at h
  · rename_i e n g o hty
    cases h
    cases hu with
    | ptr a n g o h0 hg hs hh =>
      rw [nilp hv]
      exact ⟨fun op => ge op _ _ ⟨fun _ => by simp, by simp⟩, run_eqDo rfl rfl fun d => by simp [Op.equalIn, run_underlying hty]⟩
  · rename_i e cs hty
    cases h
    cases hu with
    | cptr ad us cs hs hf hc h1 hh =>
      rw [nilp hv]
      exact ⟨fun op => ge op _ _ ⟨fun _ => by simp, by simp⟩, run_eqDo rfl rfl fun d => by simp [Op.equalIn, run_underlying hty]⟩
  · rename_i e hty
    cases h
    rw [nilp hu, nilp hv]
    exact ⟨fun op => ge op _ _ ⟨fun _ => by simp, by simp⟩, run_eqDo rfl rfl fun d => by simp [Op.equalIn, run_underlying hty]⟩
  · rename_i a b c f caps hty
    cases h
    cases hu with
    | fn f vs caps hl hh =>
      rw [nilf hv]
      exact ⟨fun op => ge op _ _ ⟨fun _ => by simp, by simp⟩, run_eqDo rfl rfl fun d => by simp [Op.equalIn, run_underlying hty]⟩
  · rename_i a b c hty
    cases h
    rw [nilf hu, nilf hv]
    exact ⟨fun op => ge op _ _ ⟨fun _ => by simp, by simp⟩, run_eqDo rfl rfl fun d => by simp [Op.equalIn, run_underlying hty]⟩
  · cases h

theorem run_pbin {P : Program} {w : World} {fr : Nat → Option Nat} {β : Nat → Blk} {gen : Nat → Nat} {op : BinOp} {t : TypeId} {x y : Operand} {u v : Value} {p q r : PV}
    (hu : PRep w fr β gen u p) (hv : PRep w fr β gen v q) (h : pbin P op t p q = some r) :
    ∃ z, (do eqGuard op t x y u v; binOp op t u v : Sem Value).run P w = .ok z w ∧ PRep w fr β gen z r := by
  unfold pbin at h
  split at h
  · rename_i xs ys
    split at h
    · simp only [Option.map_eq_some_iff] at h
      obtain ⟨r', hr, rfl⟩ := h
      obtain ⟨us, vs, rfl, rfl, hg, he⟩ := run_eqA (P := P) hu hv hr
      refine ⟨.bool r', ?_, .d _ _ (.bool _)⟩
      simp only [Sem.run_bind, run_eqGuard_agg w _ t x y us vs hg, Result.andThen_ok, run_eql_struct, he]
    · simp only [Option.map_eq_some_iff] at h
      obtain ⟨r', hr, rfl⟩ := h
      obtain ⟨us, vs, rfl, rfl, hg, he⟩ := run_eqA (P := P) hu hv hr
      refine ⟨.bool (!r'), ?_, .d _ _ (.bool _)⟩
      simp only [Sem.run_bind, run_eqGuard_agg w _ t x y us vs hg, Result.andThen_ok, run_neq_struct, he]
    · cases h
  · rename_i k a k' b
    rw [inv_int hu, inv_int hv]
    simp only [Sem.run_bind, run_eqGuard0 (P := P) (w := w) (op := op) (t := t) (x := x) (y := y) (u := .int k a) (v := .int k' b) ⟨fun _ => by simp, by simp⟩, Result.andThen_ok]
    split at h
    · simp only [Option.map_eq_some_iff] at h
      obtain ⟨z, hz, rfl⟩ := h
      exact ⟨_, run_shI hz, .d _ _ (.int k z)⟩
    · split at h
      · rename_i e
        subst e
        split at h
        · rename_i c hc
          cases h
          exact ⟨_, run_cmpI hc, .d _ _ (.bool c)⟩
        · simp only [Option.map_eq_some_iff] at h
          obtain ⟨z, hz, rfl⟩ := h
          exact ⟨_, run_arI hz, .d _ _ (.int k z)⟩
      · cases h
  · rename_i a b
    rw [inv_str hu, inv_str hv]
    simp only [Sem.run_bind, run_eqGuard0 (P := P) (w := w) (op := op) (t := t) (x := x) (y := y) (u := .string ⟨a.toArray⟩) (v := .string ⟨b.toArray⟩) ⟨fun _ => by simp, by simp⟩, Result.andThen_ok]
    split at h
    · split at h
      · rename_i hl
        cases h
        exact ⟨_, run_addS hl, .d _ _ (.str _)⟩
      · cases h
    · simp only [Option.map_eq_some_iff] at h
      obtain ⟨z, hz, rfl⟩ := h
      exact ⟨_, run_cmpS hz, .d _ _ (.bool z)⟩
  · rename_i a b
    rw [inv_bool hu, inv_bool hv]
    simp only [Sem.run_bind, run_eqGuard0 (P := P) (w := w) (op := op) (t := t) (x := x) (y := y) (u := .bool a) (v := .bool b) ⟨fun _ => by simp, by simp⟩, Result.andThen_ok]
    split at h
    · rename_i ht
      simp only [Option.map_eq_some_iff] at h
      obtain ⟨z, hz, rfl⟩ := h
      exact ⟨_, run_eqB ht hz, .d _ _ (.bool z)⟩
    · cases h
  · split at h
    · simp only [Option.map_eq_some_iff] at h
      obtain ⟨r', hr, rfl⟩ := h
      obtain ⟨hg, he⟩ := run_nil (P := P) (w := w) (x := x) (y := y) hu hv hr
      refine ⟨.bool r', ?_, .d _ _ (.bool _)⟩
      simp only [Sem.run_bind, hg, Result.andThen_ok, he.1]
    · simp only [Option.map_eq_some_iff] at h
      obtain ⟨r', hr, rfl⟩ := h
      obtain ⟨hg, he⟩ := run_nil (P := P) (w := w) (x := x) (y := y) hu hv hr
      refine ⟨.bool (!r'), ?_, .d _ _ (.bool _)⟩
      simp only [Sem.run_bind, hg, Result.andThen_ok, he.2]
    · cases h
theorem run_pun {P : Program} {w : World} {fr : Nat → Option Nat} {β : Nat → Blk} {gen : Nat → Nat} {op : UnOp} {u : Value} {p r : PV} (hu : PRep w fr β gen u p) (h : pun op p = some r) :
    ∃ z, (Op.unary op u).run P w = .ok z w ∧ PRep w fr β gen z r := by
  unfold pun at h
  split at h
  · rw [inv_bool hu]; cases h; exact ⟨_, rfl, .d _ _ (.bool _)⟩
  · rw [inv_int hu]; cases h; exact ⟨_, rfl, .d _ _ (.int _ _)⟩
  · rw [inv_int hu]; cases h; exact ⟨_, rfl, .d _ _ (.int _ _)⟩
  · cases h

end BoEng
