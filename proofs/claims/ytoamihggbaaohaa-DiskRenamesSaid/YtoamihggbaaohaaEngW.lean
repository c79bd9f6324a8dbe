/- The bridge from a law's arguments, as the row reads them, to data; and from a function's contract to the row's walk. -/
import Derived.Test.YtoamihggbaaohaaEngV
import Derived.ProofKit
import Derived.OpenShut
import Derived.ShutString
import Derived.ChangeOld
import Derived.Carry
namespace BoEng
open Go Go.RowKit Go.WideShapes

/-- The datum of a type's cells. -/
def mkD (P : Program) (t : TypeId) (cs : List DV) : DV :=
  match P.underlying t with
  | some (.struct _) => .agg cs
  | _ => cs.headD (.bool false)

/-- Fields that lie one behind another. -/
def fieldsC (r : TypeId → List DV → Prop) : List Field → List DV → Prop
  | [], cs => cs = []
  | f :: fs, cs => ∃ a b, cs = a ++ b ∧ r f.type a ∧ fieldsC r fs b

/-- Cells that are of a type. -/
def typC (P : Program) : Nat → TypeId → List DV → Prop
  | 0, _, _ => False
  | n + 1, t, cs =>
    match P.underlying t with
    | some .bool => ∃ b, cs = [.bool b]
    | some (.int k) => ∃ i, cs = [.int k i] ∧ (Lit.int k i).wf = true
    | some .string => ∃ s : List UInt8, cs = [.str s] ∧ s.length ≤ maxLen
    | some (.slice e) => ∃ xs, cs = [.slice xs] ∧ xs.length ≤ maxLen ∧ ∀ x ∈ xs, ∃ ds, typC P n e ds ∧ x = mkD P e ds
    | some (.struct fs) => fieldsC (typC P n) fs.toList cs
    | _ => False

def typD (P : Program) (n : Nat) (t : TypeId) (x : DV) : Prop := ∃ ds, typC P n t ds ∧ x = mkD P t ds

/-- The fields lie one behind another from a cell on, up to another. -/
def seqOk (P : Program) : Nat → List Field → Nat → Bool
  | o, [], e => o == e
  | o, f :: fs, e => f.offset == o && seqOk P (o + P.cellsOf f.type) fs e

/-- A type of data alone. -/
def dataOk (P : Program) : Nat → TypeId → Bool
  | 0, _ => false
  | n + 1, t =>
    match P.underlying t with
    | some .bool => P.cellsOf t == 1
    | some (.int _) => P.cellsOf t == 1
    | some .string => P.cellsOf t == 1
    | some (.slice e) => P.cellsOf t == 1 && dataOk P n e && decide (0 < P.cellsOf e)
    | some (.struct fs) => seqOk P 0 fs.toList (P.cellsOf t) && fs.toList.all fun f => dataOk P n f.type
    | _ => false

def nofr : Nat → Option Nat := fun _ => none

/-- Cells stand for data. -/
def WRep (w : World) (cs : List Value) (ds : List DV) : Prop :=
  ds.length = cs.length ∧ ∀ (k : Nat) (u : Value) (p : DV), cs[k]? = some u → ds[k]? = some p → one u ∧ DRep w nofr u p

theorem WRep.append {w : World} {a b : List Value} {x y : List DV} (h : WRep w a x) (k : WRep w b y) : WRep w (a ++ b) (x ++ y) := by
  refine ⟨by simp [h.1, k.1], fun i u p hu hp => ?_⟩
  by_cases hi : i < a.length
  · rw [List.getElem?_append_left hi] at hu
    rw [List.getElem?_append_left (by rw [h.1]; exact hi)] at hp
    exact h.2 i u p hu hp
  · rw [List.getElem?_append_right (by omega)] at hu
    rw [List.getElem?_append_right (by rw [h.1]; omega)] at hp
    rw [h.1] at hp
    exact k.2 _ u p hu hp

theorem WRep.one' {w : World} {u : Value} {p : DV} (h1 : one u) (h : DRep w nofr u p) : WRep w [u] [p] := by
  refine ⟨rfl, fun k u' p' hu hp => ?_⟩
  cases k with
  | zero => simp at hu hp; subst hu hp; exact ⟨h1, h⟩
  | succ k => simp at hu

section
variable {H : Type} {enc : TypeId × Value → H} {P : Program} {w : World} {base : Nat} {spare : Nat → Bool} {held : Bool}

theorem cells_mkD {n : Nat} {t : TypeId} {ds : List DV} (h : typC P n t ds) : cells (mkD P t ds) = ds := by
  cases n with
  | zero => exact h.elim
  | succ n =>
    unfold typC at h
    unfold mkD
    split at h
    · rename_i hu; rw [hu]; obtain ⟨b, rfl⟩ := h; rfl
    · rename_i hu; rw [hu]; obtain ⟨b, rfl, _⟩ := h; rfl
    · rename_i hu; rw [hu]; obtain ⟨b, rfl, _⟩ := h; rfl
    · rename_i hu; rw [hu]; obtain ⟨b, rfl, _⟩ := h; rfl
    · rename_i hu; rw [hu]; rfl
    · exact h.elim

theorem opens_fields {n : Nat} (fuel : Nat) (ih : ∀ t cs x, dataOk P n t = true → DataW.trod enc P w base spare held fuel t cs = some x → ∃ ds, WRep w cs ds ∧ cs.length = P.cellsOf t ∧ typC P n t ds) :
    ∀ (fs : List Field) (o e : Nat) (cs : List Value), seqOk P o fs e = true → (∀ f ∈ fs, dataOk P n f.type = true) → o + cs.length = e →
      ∀ (all : List Value), (∀ f ∈ fs, ∃ x, DataW.trod enc P w base spare held fuel f.type ((all.drop f.offset).take (P.cellsOf f.type)) = some x) → all.drop o = cs →
        ∃ ds, WRep w cs ds ∧ fieldsC (typC P n) fs ds
  | [], o, e, cs, hs, _, hl, all, _, hd => by
    simp [seqOk] at hs
    have : cs = [] := List.eq_nil_of_length_eq_zero (by omega)
    subst this
    exact ⟨[], ⟨rfl, by simp⟩, rfl⟩
  | f :: fs, o, e, cs, hs, hall, hl, all, hx, hd => by
    simp only [seqOk, Bool.and_eq_true, beq_iff_eq] at hs
    obtain ⟨ho, hs⟩ := hs
    obtain ⟨x, hfx⟩ := hx f List.mem_cons_self
    rw [ho, hd] at hfx
    obtain ⟨d1, r1, l1, t1⟩ := ih _ _ _ (hall f List.mem_cons_self) hfx
    have hle : P.cellsOf f.type ≤ cs.length := by
      rw [List.length_take] at l1
      omega
    obtain ⟨d2, r2, t2⟩ := opens_fields fuel ih fs (o + P.cellsOf f.type) e (cs.drop (P.cellsOf f.type)) hs (fun g hg => hall g (List.mem_cons_of_mem _ hg)) (by rw [List.length_drop]; omega) all
      (fun g hg => hx g (List.mem_cons_of_mem _ hg)) (by rw [← hd, List.drop_drop])
    refine ⟨d1 ++ d2, ?_, d1, d2, rfl, t1, t2⟩
    have := r1.append r2
    rwa [List.take_append_drop] at this

/-- What is read by the row stands for data of the type. -/
theorem opens : ∀ (n : Nat) (fuel : Nat) (t : TypeId) (cs : List Value) (x : DataW H × List MemPlace), dataOk P n t = true → DataW.trod enc P w base spare held fuel t cs = some x →
    ∃ ds, WRep w cs ds ∧ cs.length = P.cellsOf t ∧ typC P n t ds
  | 0, _, _, _, _, h, _ => by simp [dataOk] at h
  | n + 1, fuel, t, cs, x, h, hx => by
    unfold dataOk at h
    split at h
    · rename_i hu
      obtain ⟨b, rfl, _⟩ := DataW.trod_bool hu hx
      refine ⟨[.bool b], .one' rfl (.bool b), by simp at h; simp [h], ?_⟩
      unfold typC; rw [hu]; exact ⟨b, rfl⟩
    · rename_i k hu
      obtain ⟨i, rfl, _, hw⟩ := DataW.trod_int hu hx
      refine ⟨[.int k i], .one' rfl (.int k i), by simp at h; simp [h], ?_⟩
      unfold typC; rw [hu]; exact ⟨i, rfl, hw⟩
    · rename_i hu
      obtain ⟨s, rfl, _, hw⟩ := DataW.trod_string hu hx
      refine ⟨[.str s.data.toList], .one' rfl ?_, by simp at h; simp [h], ?_⟩
      · have := DRep.str (w := w) (fr := nofr) s.data.toList
        simpa using this
      · unfold typC; rw [hu]; exact ⟨_, rfl, by simpa using hw⟩
    · rename_i e hu
      simp only [Bool.and_eq_true, beq_iff_eq, decide_eq_true_eq] at h
      obtain ⟨⟨h1, h2⟩, h3⟩ := h
      rcases DataW.trod_slice hu hx with ⟨rfl, _⟩ | ⟨a, len, cap, elems, rest, m, rfl, rfl, _, _, hlc, hcm, hel, helem, _, _⟩
      · refine ⟨[.slice []], .one' rfl ?_, by simp [h1], ?_⟩
        · exact .slice none 0 0 (fun _ => undef) [] (Nat.le_refl _) (by simp) (by simp) (by simp) (by simp [flat])
        · unfold typC; rw [hu]; exact ⟨[], rfl, by simp, by simp⟩
      · have key : ∀ i, i < len → ∃ cs' ds, w.cells? base (a.add (i * P.cellsOf e)) (P.cellsOf e) = some cs' ∧ WRep w cs' ds ∧ cs'.length = P.cellsOf e ∧ typC P n e ds := by
          intro i hi
          have h4 := helem i hi
          have : ∃ y, elems[i]? = some y := ⟨elems[i]'(by omega), List.getElem?_eq_getElem (by omega)⟩
          obtain ⟨y, hy⟩ := this
          rw [hy, Option.bind_eq_some_iff] at h4
          obtain ⟨cs', hcs, hy'⟩ := h4
          obtain ⟨ds, r, l, t'⟩ := opens n m e cs' y h2 hy'
          exact ⟨cs', ds, hcs, r, l, t'⟩
        -- the elements
        have : ∃ dss : List (List DV), dss.length = len ∧ ∀ (i : Nat) (ds : List DV), dss[i]? = some ds → ∃ cs', w.cells? base (a.add (i * P.cellsOf e)) (P.cellsOf e) = some cs' ∧ WRep w cs' ds ∧ cs'.length = P.cellsOf e ∧ typC P n e ds := by
          clear helem hel hlc hx
          revert key
          generalize P.cellsOf e = sz
          intro key
          have : ∀ m', m' ≤ len → ∃ dss : List (List DV), dss.length = m' ∧ ∀ (i : Nat) (ds : List DV), dss[i]? = some ds → ∃ cs', w.cells? base (a.add (i * sz)) sz = some cs' ∧ WRep w cs' ds ∧ cs'.length = sz ∧ typC P n e ds := by
            intro m'
            induction m' with
            | zero => intro _; exact ⟨[], rfl, by simp⟩
            | succ m' ih =>
              intro hm
              obtain ⟨dss, hl, hd⟩ := ih (by omega)
              obtain ⟨cs', ds, q⟩ := key m' (by omega)
              refine ⟨dss ++ [ds], by simp [hl], fun i ds' hi => ?_⟩
              by_cases hlt : i < dss.length
              · rw [List.getElem?_append_left hlt] at hi
                exact hd i ds' hi
              · rw [List.getElem?_append_right (by omega)] at hi
                have : i - dss.length = 0 := by
                  cases hh : i - dss.length with
                  | zero => rfl
                  | succ _ => rw [hh] at hi; simp at hi
                rw [this] at hi
                simp at hi
                subst hi
                have : i = m' := by omega
                subst this
                exact ⟨cs', q⟩
          exact this len (Nat.le_refl _)
        obtain ⟨dss, hdl, hds⟩ := this
        let xs := dss.map (mkD P e)
        have hxl : xs.length = len := by simp [xs, hdl]
        have hxs : ∀ i x', xs[i]? = some x' → ∃ cs' ds, w.cells? base (a.add (i * P.cellsOf e)) (P.cellsOf e) = some cs' ∧ WRep w cs' ds ∧ cs'.length = P.cellsOf e ∧ typC P n e ds ∧ x' = mkD P e ds ∧ cells x' = ds := by
          intro i x' hi
          simp only [xs, List.getElem?_map, Option.map_eq_some_iff] at hi
          obtain ⟨ds, h5, rfl⟩ := hi
          obtain ⟨cs', q1, q2, q3, q4⟩ := hds i ds h5
          exact ⟨cs', ds, q1, q2, q3, q4, rfl, cells_mkD q4⟩
        have hsz : ∀ x' ∈ xs, (cells x').length = P.cellsOf e := by
          intro x' hm
          obtain ⟨i, hi⟩ := List.mem_iff_getElem?.1 hm
          obtain ⟨cs', ds, _, r, l, _, _, hc⟩ := hxs i x' hi
          rw [hc, r.1, l]
        have hspot : 0 < xs.length → a.spot = none := by
          intro h0
          obtain ⟨cs', ds, q1, q2, q3, q4, q5, q6⟩ := hxs 0 xs[0] (List.getElem?_eq_getElem h0)
          obtain ⟨_, _, q7⟩ := World.cells?_some q1
          have q8 := q7 0 h3
          rw [List.getElem?_eq_getElem (by omega)] at q8
          have h9 := World.cell?_spot q8
          simpa [Addr.add] using h9
        have hcell : ∀ k, k < xs.length * P.cellsOf e → ∃ u, w.cell? (a.add k) = some u ∧ one u ∧ ∀ p, (flat xs)[k]? = some p → DRep w nofr u p := by
          intro k hk
          have hi : k / P.cellsOf e < xs.length := (Nat.div_lt_iff_lt_mul h3).2 hk
          have hj : k % P.cellsOf e < P.cellsOf e := Nat.mod_lt _ h3
          have hk' : k / P.cellsOf e * P.cellsOf e + k % P.cellsOf e = k := by rw [Nat.mul_comm]; exact Nat.div_add_mod _ _
          obtain ⟨cs', ds, q1, q2, q3, q4, q5, q6⟩ := hxs _ xs[k / P.cellsOf e] (List.getElem?_eq_getElem hi)
          obtain ⟨_, _, q7⟩ := World.cells?_some q1
          have q8 := q7 (k % P.cellsOf e) hj
          rw [List.getElem?_eq_getElem (by omega)] at q8
          have hadd : (a.add (k / P.cellsOf e * P.cellsOf e)).add (k % P.cellsOf e) = a.add k := by
            have hsp : ∀ (a : Addr) (i j : Nat), a.spot = none → (a.add i).add j = a.add (i + j) := by
              intro a i j ha
              obtain ⟨b, o, s⟩ := a
              simp only at ha
              subst ha
              rw [add_plain, add_plain, add_plain, Nat.add_assoc]
            rw [hsp a _ _ (hspot (Nat.lt_of_le_of_lt (Nat.zero_le _) hi)), hk']
          rw [hadd] at q8
          have hf := flat_at hsz _ _ (List.getElem?_eq_getElem hi) (k % P.cellsOf e) hj
          rw [hk', q6] at hf
          have hd : ∃ p, ds[k % P.cellsOf e]? = some p := ⟨ds[k % P.cellsOf e]'(by rw [q2.1]; omega), List.getElem?_eq_getElem _⟩
          obtain ⟨p, hp⟩ := hd
          obtain ⟨o1, r1⟩ := q2.2 (k % P.cellsOf e) _ p (List.getElem?_eq_getElem (by omega)) hp
          refine ⟨_, q8, o1, fun p' hp' => ?_⟩
          rw [hf, hp] at hp'
          cases hp'
          exact r1
        refine ⟨[.slice xs], .one' rfl ?_, by simp [h1], ?_⟩
        · rw [← hxl]
          refine .slice (some a) cap (P.cellsOf e) (fun k => (w.cell? (a.add k)).getD undef) xs (by omega) hsz (fun h0 => ?_) (fun k hk => ?_) (fun k p hp => ?_)
          · have hspot := hspot h0
            refine ⟨a, rfl, hspot, fun f hf => by simp [nofr] at hf, fun k hk => ?_⟩
            obtain ⟨u, hu', _⟩ := hcell k hk
            have e1 : a.add k = ⟨a.block, a.off + k, none⟩ := by
              obtain ⟨b, o, s⟩ := a
              simp only at hspot
              subst hspot
              exact add_plain _ _ _
            rw [hu', ← e1, hu']
            rfl
          · obtain ⟨u, hu', o1, _⟩ := hcell k hk
            show one ((w.cell? (a.add k)).getD undef)
            rw [hu']
            exact o1
          · have hk : k < xs.length * P.cellsOf e := by
              have := (List.getElem?_eq_some_iff.1 hp).1
              rwa [flat_length hsz] at this
            obtain ⟨u, hu', _, r1⟩ := hcell k hk
            show DRep w nofr ((w.cell? (a.add k)).getD undef) p
            rw [hu']
            exact r1 p hp
        · unfold typC; rw [hu]
          refine ⟨xs, rfl, by omega, fun x' hm => ?_⟩
          obtain ⟨i, hi⟩ := List.mem_iff_getElem?.1 hm
          obtain ⟨cs', ds, _, _, _, q4, q5, _⟩ := hxs i x' hi
          exact ⟨ds, q4, q5⟩
    · rename_i fs hu
      simp only [Bool.and_eq_true, List.all_eq_true] at h
      obtain ⟨h1, h2⟩ := h
      obtain ⟨xs, m, rfl, _, hl, hxl, hf⟩ := DataW.trod_struct hu hx
      obtain ⟨ds, r, t'⟩ := opens_fields (P := P) (n := n) m (fun t cs x hd hx => opens n m t cs x hd hx) fs.toList 0 (P.cellsOf t) cs h1 h2 (by omega) cs (fun f hm => by
        obtain ⟨i, hi⟩ := List.mem_iff_getElem?.1 hm
        have hi' : fs[i]? = some f := by simpa using hi
        have hlt : i < fs.size := by
          have := (Array.getElem?_eq_some_iff.1 hi').1
          exact this
        exact ⟨xs[i]'(by omega), by rw [hf i f hi']; exact List.getElem?_eq_getElem (by omega)⟩) rfl
      refine ⟨ds, r, hl, ?_⟩
      unfold typC; rw [hu]; exact t'
    · cases h

/-- An argument of a law stands for a datum of its type. -/
theorem opensV {r : Reach} {b0 n : Nat} {t : TypeId} {v : Value} {d : DataW H} {ps : List MemPlace} (hd : dataOk P n t = true) (hv : Value.okWide P w r b0 t v)
    (h : DataW.Trod enc P w base spare held t v d ps) : ∃ x, typD P n t x ∧ DRep w nofr v x := by
  obtain ⟨fuel, hf⟩ := h
  obtain ⟨ds, ⟨hl, hr⟩, hc, ht⟩ := opens n fuel t _ _ hd hf
  refine ⟨mkD P t ds, ⟨ds, ht, rfl⟩, ?_⟩
  cases n with
  | zero => exact ht.elim
  | succ n =>
    unfold typC at ht
    unfold mkD
    split at ht
    · rename_i hu; rw [hu]
      obtain ⟨b, rfl⟩ := ht
      obtain ⟨b', rfl⟩ := okWide_bool hu hv
      exact (hr 0 _ _ rfl rfl).2
    · rename_i k hu; rw [hu]
      obtain ⟨i, rfl, _⟩ := ht
      obtain ⟨b', rfl⟩ := okWide_int hu hv
      exact (hr 0 _ _ rfl rfl).2
    · rename_i hu; rw [hu]
      obtain ⟨i, rfl, _⟩ := ht
      obtain ⟨b', rfl⟩ := okWide_string hu hv
      exact (hr 0 _ _ rfl rfl).2
    · rename_i e hu; rw [hu]
      obtain ⟨i, rfl, _⟩ := ht
      obtain ⟨a', l', c', rfl⟩ := okWide_slice hu hv
      exact (hr 0 _ _ rfl rfl).2
    · rename_i fs hu; rw [hu]
      obtain ⟨cs, rfl, _⟩ := okWide_struct hu hv
      have e1 : (Value.agg cs).cells.toList = cs.toList := rfl
      rw [e1] at hr hl
      have := DRep.agg (w := w) (fr := nofr) cs.toList ds hl.symm (fun u hm => ?_) (fun k u p hu hp => (hr k u p hu hp).2)
      · simpa using this
      · obtain ⟨k, hk⟩ := List.mem_iff_getElem?.1 hm
        have hkl : k < ds.length := by rw [hl]; exact (List.getElem?_eq_some_iff.1 hk).1
        exact (hr k u _ hk (List.getElem?_eq_getElem hkl)).1
    · exact ht.elim

/-- A law's contract, in memory. -/
theorem Holds.walk {f : FuncId} {args : List DV} {r : Bool} (h : Holds P f (args.map .d) (.d (.bool r)) (fun _ => false)) {vs : Array Value} {w : World} (hl : vs.size = args.length)
    (hv : ∀ (i : Nat) (v : Value) (p : DV), vs[i]? = some v → args[i]? = some p → DRep w nofr v p) :
    Calls P f vs w fun e w' => e = .returned (.bool r) ∧ Below w.heap.size w w' := by
  obtain ⟨_, _, h⟩ := h
  refine (h vs w nofr (by simpa using hl) (by simp [nofr]) (fun i v p hvi hp => ?_)).mono ?_
  · rw [List.getElem?_map, Option.map_eq_some_iff] at hp
    obtain ⟨x, hx, rfl⟩ := hp
    exact .d _ _ (hv i v x hvi hx)
  · rintro e w' ⟨v, fr', S', β', rfl, hS, hr, _⟩
    have hx := hS.freshOf
    have h0 := hS.vals 0
    rw [hr] at h0
    have h1 := inv_d h0
    have : v = .bool r := by
      have e0 : (res v).tmps.getD 0 undef = v := rfl
      rw [e0] at h1
      generalize hg : DV.bool r = y at h1
      cases h1 <;> simp_all
    subst this
    exact ⟨rfl, hx.os, hx.tape, hx.output, hx.size, fun k hk => hx.old k hk⟩
end

end BoEng
