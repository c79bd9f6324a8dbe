/- Calls; one operation, guarded or not. -/
import Derived.Test.YtoamihggbaaohaaEngN
import Derived.Deep.LoopGhost
namespace BoEng
open Go Go.RowKit

/-- The state in which a function begins (no box of another is handed to it). -/
def PS.start (args : List PV) : PS := ⟨fun i => args.getD i .undef, fun _ => [], fun _ => 0, fun _ => false, FO⟩

/-- Data, or a place of cells that nobody writes. -/
def flatP : PV → Bool
  | .d _ => true
  | .cptr _ => true
  | _ => false
/-- No box stands in it. -/
def ptrFree : PV → Bool
  | .d _ => true
  | .cptr _ => true
  | .fn _ cs => cs.all flatP
  | .tup vs => vs.all fun | .d _ => true | .cptr _ => true | .fn _ cs => cs.all flatP | _ => false
  | _ => false

theorem ptrFree_rep {w : World} {fr : Nat → Option Nat} {β : Nat → Blk} {gen : Nat → Nat} {β' : Nat → Blk} {gen' : Nat → Nat} {v : Value} {p : PV} (hp : ptrFree p = true) (h : PRep w fr β gen v p) : PRep w fr β' gen' v p := by
  have h0 : ∀ {v : Value} {p : PV}, flatP p = true → PRep w fr β gen v p → PRep w fr β' gen' v p := by
    intro v p hp h
    cases h with
    | d v x h => exact .d v x h
    | cptr ad us cs hs hf hc h1 h => exact .cptr ad us cs hs hf hc h1 h
    | _ => simp [flatP] at hp
  have h1 : ∀ {v : Value} {p : PV}, (match p with | .d _ => true | .cptr _ => true | .fn _ cs => cs.all flatP | _ => false) = true → PRep w fr β gen v p → PRep w fr β' gen' v p := by
    intro v p hp h
    cases h with
    | d v x h => exact .d v x h
    | cptr ad us cs hs hf hc h1 h => exact .cptr ad us cs hs hf hc h1 h
    | fn f vs caps hl h => exact .fn f vs caps hl fun k v p hv hpk => h0 (List.all_eq_true.1 hp p (List.mem_of_getElem? hpk)) (h k v p hv hpk)
    | _ => simp at hp
  cases h with
  | tup vs ps hl hh =>
    refine .tup vs ps hl fun k v p hv hpk => h1 ?_ (hh k v p hv hpk)
    simp only [ptrFree, List.all_eq_true] at hp
    exact hp p (List.mem_of_getElem? hpk)
  | d v x h => exact .d v x h
  | cptr ad us cs hs hf hc h1 h => exact .cptr ad us cs hs hf hc h1 h
  | fn f vs caps hl h => exact .fn f vs caps hl fun k v p hv hpk => h0 (List.all_eq_true.1 hp p (List.mem_of_getElem? hpk)) (h k v p hv hpk)
  | _ => simp [ptrFree] at hp

/-- What a slot alone says. -/
def res (v : Value) : Act := ⟨#[v], []⟩

/-- Called with values that stand for 'args', in whatever memory, the function returns; what it returns stands for 'r' (what 'ro' tells is one's own), and no old block has been written. -/
def Holds (P : Program) (f : FuncId) (args : List PV) (r : PV) (ro : Nat → Bool) : Prop :=
  (∃ fn c, P.funcs[f]? = some fn ∧ (fn.name == "runtime.NumGoroutine") = false ∧ fn.body = some c) ∧ ptrFree r = true ∧
  ∀ (vs : Array Value) (w : World) (fr : Nat → Option Nat), vs.size = args.length → (∀ b f, fr b = some f → b < w.heap.size) →
    (∀ (i : Nat) (v : Value) (p : PV), vs[i]? = some v → args[i]? = some p → PRep w fr (fun _ => ⟨0, 0⟩) (fun _ => 0) v p) →
    Calls P f vs w fun e w' => ∃ v fr' S' β', e = .returned v ∧ Sim 1 Env.free w fr S' (res v) w' fr' β' ∧ S'.t 0 = r ∧ ∀ j, ro j = true → S'.own (.t 0 j) = true

/-! ### Calls that are handed boxes -/
mutual
/-- All boxes that stand in it are named. -/
def namesIn (ns : List Nat) : PV → Bool
  | .ptr n _ _ => ns.contains n
  | .bsl n _ _ _ _ => ns.contains n
  | .pa cs => namesL ns cs
  | .fn _ cs => namesL ns cs
  | .tup cs => namesL ns cs
  | _ => true
def namesL (ns : List Nat) : List PV → Bool
  | [] => true
  | c :: r => namesIn ns c && namesL ns r
end
theorem namesL_spec {ns : List Nat} : ∀ {cs : List PV}, namesL ns cs = true → ∀ p ∈ cs, namesIn ns p = true
  | [], _, p, hp => by simp at hp
  | c :: r, h, p, hp => by
    simp only [namesL, Bool.and_eq_true] at h
    rcases List.mem_cons.1 hp with rfl | hp
    · exact h.1
    · exact namesL_spec h.2 p hp
@[simp] theorem namesL_d {ns : List Nat} : ∀ (xs : List DV), namesL ns (xs.map PV.d) = true
  | [] => rfl
  | x :: xs => by simp [namesL, namesIn, namesL_d xs]
@[simp] theorem namesL_rep {ns : List Nat} {x : DV} : ∀ (n : Nat), namesL ns (List.replicate n (PV.d x)) = true
  | 0 => rfl
  | n + 1 => by simp [List.replicate_succ, namesL, namesIn, namesL_rep n]
@[simp] theorem namesL_app {ns : List Nat} : ∀ (xs ys : List PV), namesL ns (xs ++ ys) = (namesL ns xs && namesL ns ys)
  | [], ys => by simp [namesL]
  | x :: xs, ys => by simp [namesL, namesL_app xs ys, Bool.and_assoc]

theorem names_rep {w : World} {fr : Nat → Option Nat} {β : Nat → Blk} {gen : Nat → Nat} {β' : Nat → Blk} {gen' : Nat → Nat} {ns : List Nat} (hx : ∀ n, n ∈ ns → β' n = β n ∧ gen' n = gen n)
    {v : Value} {p : PV} (h : PRep w fr β gen v p) : namesIn ns p = true → PRep w fr β' gen' v p := by
  induction h with
  | d v x h => exact fun _ => .d v x h
  | ptr a n g o h0 hg hs h =>
    intro hn
    obtain ⟨e1, e2⟩ := hx n (by simpa [namesIn] using hn)
    exact .ptr a n g o h0 (by rw [e2]; exact hg) hs (by rw [e1, e2]; exact h)
  | cptr ad us cs hs hf hc h1 h => exact fun _ => .cptr ad us cs hs hf hc h1 h
  | bsl A n g len sz cap ag h0 hg hs h =>
    intro hn
    obtain ⟨e1, e2⟩ := hx n (by simpa [namesIn] using hn)
    exact .bsl A n g len sz cap ag h0 (by rw [e2]; exact hg) hs (by rw [e1, e2]; exact h)
  | pa vs cs hl h1 h ih => exact fun hn => .pa vs cs hl h1 fun k v p hv hp => ih k v p hv hp (namesL_spec (by simpa [namesIn] using hn) p (List.mem_of_getElem? hp))
  | fn f vs caps hl h ih => exact fun hn => .fn f vs caps hl fun k v p hv hp => ih k v p hv hp (namesL_spec (by simpa [namesIn] using hn) p (List.mem_of_getElem? hp))
  | tup vs ps hl h ih => exact fun hn => .tup vs ps hl fun k v p hv hp => ih k v p hv hp (namesL_spec (by simpa [namesIn] using hn) p (List.mem_of_getElem? hp))
  | any v hb => exact fun _ => .any v hb

/-- The state in which a function begins that is handed boxes; its own ones have names from 'fo' on. -/
def PS.startB (fo : Nat) (gl : Nat → Nat) (args : List PV) (pre : List Upd) : PS :=
  ⟨fun i => args.getD i .undef, fun n => match findU pre n with | some u => u.c | none => [], fun n => match findU pre n with | some u => u.g | none => gl n,
    fun l => match l with | .b n k => (match findU pre n with | some u => u.o k | none => false) | _ => false, fo⟩

/-- A box as it is. -/
def snap (S : PS) (n : Nat) : Upd := ⟨n, S.gen n, S.box n, fun k => S.own (.b n k)⟩

/-- Called with values that stand for 'args', and handed the boxes 'pre', the function returns; what it returns stands for 'r', the boxes are then 'post' (also such as it has made), and no other old block has been written. -/
def Meets (P : Program) (fo : Nat) (gl : Nat → Nat) (f : FuncId) (args : List PV) (pre : List Upd) (r : PV) (ro : Nat → Bool) (post : List Upd) : Prop :=
  (∃ fn c, P.funcs[f]? = some fn ∧ (fn.name == "runtime.NumGoroutine") = false ∧ fn.body = some c) ∧ namesIn (post.map (·.n)) r = true ∧ (∀ u ∈ post, namesL (post.map (·.n)) u.c = true ∧ 0 < u.g) ∧ (∀ u ∈ pre, u.n ∈ post.map (·.n)) ∧
  ∀ (vs : Array Value) (w : World) (fr : Nat → Option Nat) (T : Env) (β : Nat → Blk), vs.size = args.length → Sim vs.size T w fr (PS.startB fo gl args pre) ⟨vs, []⟩ w fr β →
    Calls P f vs w fun e w' => ∃ v fr' S' β', e = .returned v ∧ Sim 1 T w fr S' (res v) w' fr' β' ∧ S'.t 0 = r ∧ (∀ j, ro j = true → S'.own (.t 0 j) = true) ∧
      ∀ u ∈ post, S'.gen u.n = u.g ∧ S'.box u.n = u.c ∧ ∀ k, u.o k = true → S'.own (.b u.n k) = true

theorem findU_snap {S : PS} {ns : List Nat} {n : Nat} : findU (ns.map (snap S)) n = if n ∈ ns then some (snap S n) else none := by
  induction ns with
  | nil => simp
  | cons m l ih =>
    simp only [List.map_cons, findU, ih, List.mem_cons]
    by_cases e : m = n
    · subst e; simp [snap]
    · have e' : ¬ n = m := fun x => e x.symm
      simp [snap, e, e']

theorem findU_of_mem {l : List Upd} {n : Nat} (h : n ∈ l.map (·.n)) : ∃ u, findU l n = some u ∧ u ∈ l ∧ u.n = n := by
  induction l with
  | nil => simp at h
  | cons v l ih =>
    by_cases e : v.n = n
    · exact ⟨v, by simp [findU, e], List.mem_cons_self, e⟩
    · simp only [List.map_cons, List.mem_cons] at h
      rcases h with h | h
      · exact absurd h.symm e
      · obtain ⟨u, hu, hm, hn⟩ := ih h
        exact ⟨u, by simp [findU, e, hu], List.mem_cons_of_mem _ hm, hn⟩

theorem findU_none_of {l : List Upd} {n : Nat} (h : findU l n = none) : n ∉ l.map (·.n) := by
  intro hm
  obtain ⟨u, hu, _⟩ := findU_of_mem hm
  rw [h] at hu
  cases hu
theorem findU_mem_of {l : List Upd} {n : Nat} {u : Upd} (h : findU l n = some u) : u ∈ l ∧ u.n = n := by
  induction l with
  | nil => simp at h
  | cons v l ih =>
    simp only [findU] at h
    split at h
    · rename_i e
      cases h
      exact ⟨List.mem_cons_self, e⟩
    · exact ⟨List.mem_cons_of_mem _ (ih h).1, (ih h).2⟩

section
variable {N : Nat} {tch : Env} {w0 : World} {fr0 : Nat → Option Nat} {S : PS} {a : Act} {w : World} {fr : Nat → Option Nat} {β : Nat → Blk}

def enterB (β : Nat → Blk) (ns : List Nat) : Nat → Blk := fun n => if n ∈ ns then β n else ⟨0, 0⟩
def enterG (S : PS) (ns : List Nat) : Nat → Nat := fun n => if n ∈ ns then S.gen n else S.gen n + 1
def enterT (S : PS) (a : Act) (w : World) (β : Nat → Blk) (ns : List Nat) : Env :=
  ⟨fun b => (∃ n, n ∈ ns ∧ 0 < (β n).c ∧ b = (β n).b) ∨ ∃ n k, n ∈ ns ∧ S.own (.b n k) = true ∧ rowOf (vat a w β (.b n k)) = some b, enterB β ns, enterG S ns⟩

/-- A row's block: where it is, and how it is registered. -/
theorem OwnOk.rowFr {T : Nat → Prop} {v : Value} {p : PV} (h : OwnOk T w0 w fr v p) {b : Nat} (hb : rowOf v = some b) : (∃ f, fr b = some f ∧ 0 < f) ∧ (w0.heap.size ≤ b ∨ T b) := by
  obtain ⟨xs, rfl, h⟩ := h
  rcases h with ⟨A, n, rfl⟩ | ⟨b', c, cur, E, sz, rfl, hn, h0, h00, hh, hz, hs, hf, hm⟩
  · cases A <;> simp [rowOf] at hb
  · have e : b' = b := by simpa [rowOf, hn] using hb
    subst e
    exact ⟨⟨_, hf, Nat.mul_pos h0 h00⟩, hm⟩

theorem OwnOk.lift {T : Nat → Prop} {tch : Nat → Prop} {w1 w' : World} {fr' : Nat → Option Nat} (hT : ∀ b, T b → w0.heap.size ≤ b ∨ tch b) (hs : w0.heap.size ≤ w1.heap.size) {v : Value} {p : PV} (h : OwnOk T w1 w' fr' v p) : OwnOk tch w0 w' fr' v p := by
  obtain ⟨xs, rfl, h⟩ := h
  refine ⟨xs, rfl, ?_⟩
  rcases h with h | ⟨b', c, cur, E, sz, e, hn, h0, h00, hh, hz, hs', hf, hm⟩
  · exact .inl h
  · refine .inr ⟨b', c, cur, E, sz, e, hn, h0, h00, hh, hz, hs', hf, ?_⟩
    rcases hm with hm | hm
    · exact .inl (Nat.le_trans hs hm)
    · exact hT _ hm

theorem Sim.enter (h : Sim N tch w0 fr0 S a w fr β) {ns : List Nat} (hns : ∀ n ∈ ns, 0 < S.gen n) (fo : Nat) {args : List PV} {vs : Array Value} (hlen : vs.size = args.length)
    (hvs : ∀ (i : Nat) (v : Value) (p : PV), vs[i]? = some v → args[i]? = some p → PRep w fr β S.gen v p) :
    Sim vs.size (enterT S a w β ns) w fr (PS.startB fo (fun n => S.gen n + 1) args (ns.map (snap S))) ⟨vs, []⟩ w fr (enterB β ns) := by
  have hb : ∀ n, (PS.startB fo (fun n => S.gen n + 1) args (ns.map (snap S))).box n = if n ∈ ns then S.box n else [] := by
    intro n
    simp only [PS.startB, findU_snap]
    split <;> rename_i hx <;> split at hx <;> simp_all [snap]
    · rw [← hx]
  have hg : (PS.startB fo (fun n => S.gen n + 1) args (ns.map (snap S))).gen = enterG S ns := by
    funext n
    simp only [PS.startB, findU_snap, enterG]
    split <;> rename_i hx <;> split at hx <;> simp_all [snap]
    · rw [← hx]
  have ho : ∀ n k, (PS.startB fo (fun n => S.gen n + 1) args (ns.map (snap S))).own (.b n k) = true → n ∈ ns ∧ S.own (.b n k) = true := by
    intro n k hx
    simp only [PS.startB, findU_snap] at hx
    by_cases e : n ∈ ns
    · simp only [if_pos e, snap] at hx
      exact ⟨e, hx⟩
    · simp [if_neg e] at hx
  have hot : ∀ i j, (PS.startB fo (fun n => S.gen n + 1) args (ns.map (snap S))).own (.t i j) = false := fun _ _ => rfl
  have hG : GExt β S.gen (enterB β ns) (enterG S ns) := by
    refine ⟨fun n => ?_, fun n e h0 => ?_⟩
    · unfold enterG; split <;> omega
    · unfold enterG at e
      unfold enterB
      split at e
      · rename_i hm; rw [if_pos hm]
      · omega
  have hD := DExt.refl w fr
  have hvat : ∀ n k, n ∈ ns → vat ⟨vs, []⟩ w (enterB β ns) (.b n k) = vat a w β (.b n k) := by
    intro n k hm
    simp only [vat, enterB, if_pos hm]
  have hat : ∀ n k, n ∈ ns → (PS.startB fo (fun n => S.gen n + 1) args (ns.map (snap S))).at (.b n k) = S.at (.b n k) := by
    intro n k hm
    simp only [PS.at, hb, if_pos hm]
  refine ⟨rfl, rfl, rfl, rfl, rfl, Nat.le_refl _, h.frb, fun _ _ _ => ⟨rfl, rfl⟩, fun b hbT => ?_, fun i => ?_, fun n hn => ?_, fun n m hn hm hcn hcm e => ?_, fun l hl => ?_, fun n k hl => ?_, fun l l' hl hl' hne b hbr => ?_, ?_⟩
  · rcases hbT with ⟨n, hm, hc, rfl⟩ | ⟨n, k, hm, hw, hr⟩
    · have hB := h.boxes n (hns n hm)
      obtain ⟨cs, E, hcc, _⟩ := hB.ex hc
      exact ⟨(Array.getElem?_eq_some_iff.1 hcc).1, 0, 0, hB.reg hc, hB.reg hc, Nat.le_refl _, fun _ _ _ hx => hx⟩
    · have hO := h.own _ hw
      obtain ⟨⟨f, hf, _⟩, _⟩ := hO.rowFr hr
      exact ⟨hO.row hr, f, f, hf, hf, Nat.le_refl _, fun _ _ _ hx => hx⟩
  · rw [hg]
    simp only [PS.startB, Array.getD_eq_getD_getElem?, List.getD_eq_getElem?_getD]
    by_cases hi : i < vs.size
    · rw [Array.getElem?_eq_getElem hi, List.getElem?_eq_getElem (by omega)]
      exact (hvs i _ _ (Array.getElem?_eq_getElem hi) (List.getElem?_eq_getElem (by omega))).mono hD hG
    · rw [Array.getElem?_eq_none (by omega), List.getElem?_eq_none (by omega)]
      exact opq_undef
  · rw [hb, hg]
    by_cases e : n ∈ ns
    · have hB := h.boxes n (hns n e)
      simp only [enterB, if_pos e]
      refine ⟨hB.len, fun hc => ?_, hB.reg, fun hc => .inr (.inl ⟨n, e, hc, rfl⟩)⟩
      obtain ⟨cs, E, h1, h2, h3⟩ := hB.ex hc
      refine ⟨cs, E, h1, h2, fun k u p hu hp => ⟨(h3 k u p hu hp).1.mono hD ?_, (h3 k u p hu hp).2⟩⟩
      exact hG
    · simp only [enterB, if_neg e]
      exact ⟨by simp, fun hc => absurd hc (by simp), fun hc => absurd hc (by simp), fun hc => absurd hc (by simp)⟩
  · by_cases e1 : n ∈ ns
    · by_cases e2 : m ∈ ns
      · simp only [enterB, if_pos e1, if_pos e2] at hcn hcm e
        exact h.binj n m (hns n e1) (hns m e2) hcn hcm e
      · simp [enterB, if_neg e2] at hcm
    · simp [enterB, if_neg e1] at hcn
  · cases l with
    | t i j => simp [hot] at hl
    | b n k =>
      obtain ⟨hm, hw⟩ := ho n k hl
      rw [hvat n k hm, hat n k hm]
      obtain ⟨xs, e, hh⟩ := h.own _ hw
      refine ⟨xs, e, ?_⟩
      rcases hh with hh | ⟨b, c, cur, E, sz, q1, q2, q3, q4, q5, q6, q7, q8, q9⟩
      · exact .inl hh
      · exact .inr ⟨b, c, cur, E, sz, q1, q2, q3, q4, q5, q6, q7, q8, .inr (.inr ⟨n, k, hm, hw, by rw [q1]; simp [rowOf, q2]⟩)⟩
  · obtain ⟨hm, hw⟩ := ho n k hl
    obtain ⟨h1, h2⟩ := h.live n k hw
    rw [hb, hg]
    simp only [enterG, if_pos hm]
    exact ⟨h1, h2⟩
  · cases l with
    | t i j => simp [hot] at hl
    | b n k =>
      cases l' with
      | t i j => simp [hot] at hl'
      | b n' k' =>
        obtain ⟨hm, hw⟩ := ho n k hl
        obtain ⟨hm', hw'⟩ := ho n' k' hl'
        rw [hvat n k hm] at hbr
        rw [hvat n' k' hm']
        exact h.oinj _ _ hw hw' hne b hbr
  · rw [hg]
    exact GExt.refl _ _

theorem Sim.leave (h : Sim N tch w0 fr0 S a w fr β) {ns : List Nat} (hns : ∀ n ∈ ns, 0 < S.gen n) {S' : PS} {w' : World} {fr' : Nat → Option Nat} {β' : Nat → Blk} {n1 : Nat} {a1 : Act} {post : List Upd}
    (hc : Sim n1 (enterT S a w β ns) w fr S' a1 w' fr' β') (hpn : ∀ u ∈ post, namesL (post.map (·.n)) u.c = true ∧ 0 < u.g) (hpre : ∀ n ∈ ns, n ∈ post.map (·.n))
    (hpost : ∀ u ∈ post, S'.gen u.n = u.g ∧ S'.box u.n = u.c ∧ ∀ k, u.o k = true → S'.own (.b u.n k) = true) :
    ∃ β2 : Nat → Blk, Sim N tch w0 fr0 ((⟨none, .undef, fun _ => false, fun _ => false, post⟩ : Eff).apply S) a w' fr' β2 ∧ (∀ n, n ∈ post.map (·.n) → β2 n = β' n ∧ ((⟨none, .undef, fun _ => false, fun _ => false, post⟩ : Eff).apply S).gen n = S'.gen n) ∧
      (∀ b, (enterT S a w β ns).tch b → w0.heap.size ≤ b ∨ tch b) ∧
      ∀ l, ((⟨none, .undef, fun _ => false, fun _ => false, post⟩ : Eff).apply S).own l = true → (∃ n k, l = .b n k ∧ S'.own (.b n k) = true ∧ vat a w' β2 l = vat a1 w' β' l) ∨ (∀ b, rowOf (vat a w' β2 l) = some b → b < w.heap.size ∧ ¬ (enterT S a w β ns).tch b) := by
  generalize hT' : enterT S a w β ns = T at hc
  have hTd : ∀ b, T.tch b ↔ ((∃ n, n ∈ ns ∧ 0 < (β n).c ∧ b = (β n).b) ∨ ∃ n k, n ∈ ns ∧ S.own (.b n k) = true ∧ rowOf (vat a w β (.b n k)) = some b) := by
    intro b; rw [← hT']; exact Iff.rfl
  have hText : GExt (enterB β ns) (enterG S ns) β' S'.gen := by
    have := hc.ext
    rw [← hT'] at this
    exact this
  have hT : ∀ b, T.tch b → w0.heap.size ≤ b ∨ tch b := by
    intro b hb
    rcases (hTd b).1 hb with ⟨n, hm, hcc, rfl⟩ | ⟨n, k, hm, hw, hr⟩
    · exact (h.boxes n (hns n hm)).mine hcc
    · exact ((h.own _ hw).rowFr hr).2
  have hTn : ∀ n, n ∉ ns → 0 < S.gen n → 0 < (β n).c → ¬ T.tch (β n).b := by
    intro n hn h0 hcn hb
    rcases (hTd _).1 hb with ⟨m, hm, hcc, e⟩ | ⟨m, k, hm, hw, hr⟩
    · exact hn (by rw [h.binj n m h0 (hns m hm) hcn hcc e]; exact hm)
    · obtain ⟨⟨f, hf, hf0⟩, _⟩ := (h.own _ hw).rowFr hr
      rw [(h.boxes n h0).reg hcn] at hf
      cases hf
      omega
  have hTo : ∀ l, S.own l = true → (∀ n k, l = .b n k → n ∉ ns) → ∀ b, rowOf (vat a w β l) = some b → ¬ T.tch b := by
    intro l hl hln b hbr hb
    obtain ⟨⟨f, hf, hf0⟩, _⟩ := (h.own _ hl).rowFr hbr
    rcases (hTd _).1 hb with ⟨m, hm, hcc, rfl⟩ | ⟨m, k, hm, hw, hr⟩
    · rw [(h.boxes m (hns m hm)).reg hcc] at hf
      cases hf
      omega
    · exact h.oinj l (.b m k) hl hw (fun e => hln m k e hm) b hbr hr
  generalize hS2 : (⟨none, .undef, fun _ => false, fun _ => false, post⟩ : Eff).apply S = S2
  have et : S2.t = S.t := by rw [← hS2]; rfl
  have eb : ∀ n, S2.box n = match findU post n with | some u => u.c | none => S.box n := by intro n; rw [← hS2]; rfl
  have eg : ∀ n, S2.gen n = match findU post n with | some u => u.g | none => S.gen n := by intro n; rw [← hS2]; rfl
  have eot : ∀ i j, S2.own (.t i j) = S.own (.t i j) := by intro i j; rw [← hS2]; simp [Eff.apply]
  have eob : ∀ n k, S2.own (.b n k) = match findU post n with | some u => u.o k | none => S.own (.b n k) := by
    intro n k; rw [← hS2]; simp only [Eff.apply]; cases findU post n <;> simp
  obtain ⟨β2, hβ2⟩ : ∃ β2 : Nat → Blk, ∀ n, β2 n = match findU post n with | some _ => β' n | none => β n := ⟨_, fun _ => rfl⟩
  have hnone : ∀ n, findU post n = none → n ∉ ns := fun n hn hm => findU_none_of hn (hpre n hm)
  have hin : ∀ n, n ∈ post.map (·.n) → β2 n = β' n ∧ S2.gen n = S'.gen n := by
    intro n hn
    obtain ⟨u, hu, hm, e⟩ := findU_of_mem hn
    rw [hβ2, eg, hu]
    exact ⟨rfl, by show u.g = S'.gen n; rw [← (hpost u hm).1, e]⟩
  have hG : GExt β S.gen β2 S2.gen := by
    refine ⟨fun n => ?_, fun n e h0 => ?_⟩
    · rw [eg]
      cases hf : findU post n with
      | none => exact Nat.le_refl _
      | some u =>
        obtain ⟨hm, e⟩ := findU_mem_of hf
        have h1 := hText.le n
        have h2 := (hpost u hm).1
        rw [e] at h2
        simp only
        rw [← h2]
        unfold enterG at h1
        split at h1 <;> omega
    · rw [hβ2]
      rw [eg] at e
      cases hf : findU post n with
      | none => rfl
      | some u =>
        rw [hf] at e
        obtain ⟨hm, e'⟩ := findU_mem_of hf
        have h1 := hText.le n
        have h2 := (hpost u hm).1
        rw [e'] at h2
        simp only at e ⊢
        by_cases hn : n ∈ ns
        · have h3 := hText.same n (by unfold enterG; rw [if_pos hn, h2, e]) (by unfold enterG; rw [if_pos hn]; exact h0)
          rw [h3]
          unfold enterB
          rw [if_pos hn]
        · unfold enterG at h1
          rw [if_neg hn, h2, e] at h1
          omega
  have hD := hc.dext
  have hcell : ∀ n k, findU post n = none → S.own (.b n k) = true → vat a w' β2 (.b n k) = vat a w β (.b n k) := by
    intro n k hn hl
    obtain ⟨h0, hk⟩ := h.live n k hl
    have hB := h.boxes n h0
    have hcp := hB.at hk
    obtain ⟨cs, E, hcc, _⟩ := hB.ex hcp
    have hlt := (Array.getElem?_eq_some_iff.1 hcc).1
    have hfrm := (hc.frame _ hlt (hTn n (hnone n hn) h0 hcp)).1
    simp only [vat, hβ2, hn]
    rw [World.cell?_of_block (w := w) hfrm]
  have hown2 : ∀ l, S2.own l = true → (∃ n k u, l = .b n k ∧ findU post n = some u ∧ u.o k = true ∧ S'.own (.b n k) = true ∧ vat a w' β2 l = vat a1 w' β' l ∧ S2.at l = S'.at l) ∨
      (S.own l = true ∧ (∀ n k, l = .b n k → n ∉ ns) ∧ vat a w' β2 l = vat a w β l ∧ S2.at l = S.at l) := by
    intro l hl
    cases l with
    | t i j =>
      rw [eot] at hl
      exact .inr ⟨hl, by simp, rfl, by simp only [PS.at, et]⟩
    | b n k =>
      rw [eob] at hl
      cases hf : findU post n with
      | none =>
        rw [hf] at hl
        exact .inr ⟨hl, fun n' k' e => by cases e; exact hnone n hf, hcell n k hf hl, by simp only [PS.at, eb, hf]⟩
      | some u =>
        rw [hf] at hl
        obtain ⟨hm, e⟩ := findU_mem_of hf
        obtain ⟨p1, p2, p3⟩ := hpost u hm
        have hx := p3 k hl
        rw [e] at hx p2
        exact .inl ⟨n, k, u, rfl, hf, hl, hx, by simp only [vat, hβ2, hf], by simp only [PS.at, eb, hf, p2]⟩
  have hrowB : ∀ l, S.own l = true → (∀ n k, l = .b n k → n ∉ ns) → ∀ b, rowOf (vat a w β l) = some b → b < w.heap.size ∧ ¬ T.tch b :=
    fun l h1 h2 b hb => ⟨(h.own l h1).row hb, hTo l h1 h2 b hb⟩
  refine ⟨β2, ?_, hin, hT, fun l hl => ?_⟩
  · refine ⟨h.defers, h.ntmps, hc.os.trans h.os, hc.tape.trans h.tape, hc.output.trans h.output, Nat.le_trans h.size hc.size, hc.frb, fun b hb ht => ?_, fun b hb => ?_, fun i => ?_, fun n hn => ?_, fun n m hn hm hcn hcm e => ?_, fun l hl => ?_, fun n k hl => ?_, fun l l' hl hl' hne b hbr => ?_, h.ext.trans hG⟩
    · have hnT : ¬ T.tch b := fun hx => (hT b hx).elim (by omega) ht
      have h1 := hc.frame b (Nat.lt_of_lt_of_le hb h.size) hnT
      have h2 := h.frame b hb ht
      exact ⟨h1.1.trans h2.1, h1.2.trans h2.2⟩
    · obtain ⟨hlt, f0, f, e0, e, hle, hk⟩ := h.keep b hb
      have hlt' := Nat.lt_of_lt_of_le hlt h.size
      by_cases hx : T.tch b
      · obtain ⟨_, g0, g, q0, q, hle', hk'⟩ := hc.keep b hx
        rw [e] at q0
        cases q0
        exact ⟨hlt, f0, g, e0, q, Nat.le_trans hle hle', fun k u hkf hcl => hk' k u (Nat.lt_of_lt_of_le hkf hle) (hk k u hkf hcl)⟩
      · have h1 := hc.frame b hlt' hx
        exact ⟨hlt, f0, f, e0, by rw [h1.2]; exact e, hle, fun k u hkf hcl => by rw [World.cell?_of_block (w := w) h1.1]; exact hk k u hkf hcl⟩
    · rw [et]
      exact (h.vals i).mono hD hG
    · cases hf : findU post n with
      | none =>
        have hn' : 0 < S.gen n := by rw [eg, hf] at hn; exact hn
        have hB := h.boxes n hn'
        rw [hβ2, eb, hf]
        refine ⟨hB.len, fun hcp => ?_, fun hcp => ?_, hB.mine⟩
        · obtain ⟨cs, E, h1, h2, h3⟩ := hB.ex hcp
          have hlt := (Array.getElem?_eq_some_iff.1 h1).1
          have hfrm := hc.frame _ hlt (hTn n (hnone n hf) hn' hcp)
          exact ⟨cs, E, by rw [hfrm.1]; exact h1, h2, fun k u p hu hp => ⟨(h3 k u p hu hp).1.mono hD hG, (h3 k u p hu hp).2⟩⟩
        · obtain ⟨cs, E, h1, h2, h3⟩ := hB.ex hcp
          have hlt := (Array.getElem?_eq_some_iff.1 h1).1
          have hfrm := hc.frame _ hlt (hTn n (hnone n hf) hn' hcp)
          rw [hfrm.2]
          exact hB.reg hcp
      | some u =>
        obtain ⟨hm, e⟩ := findU_mem_of hf
        obtain ⟨p1, p2, p3⟩ := hpost u hm
        rw [e] at p1 p2
        have hB := hc.boxes n (by rw [p1]; exact (hpn u hm).2)
        rw [p2] at hB
        rw [hβ2, eb, hf]
        refine ⟨hB.len, fun hcp => ?_, hB.reg, fun hcp => ?_⟩
        · obtain ⟨cs, E, h1, h2, h3⟩ := hB.ex hcp
          exact ⟨cs, E, h1, h2, fun k u' p hu hp => ⟨names_rep hin (h3 k u' p hu hp).1 (namesL_spec (hpn u hm).1 p (List.mem_of_getElem? hp)), (h3 k u' p hu hp).2⟩⟩
        · rcases hB.mine hcp with hx | hx
          · exact .inl (Nat.le_trans h.size hx)
          · exact hT _ hx
    · have hA : ∀ n u, findU post n = some u → 0 < (β' n).c → w.heap.size ≤ (β' n).b ∨ T.tch (β' n).b := by
        intro n u hf hcp
        obtain ⟨hm, e⟩ := findU_mem_of hf
        have p1 := (hpost u hm).1
        rw [e] at p1
        exact (hc.boxes n (by rw [p1]; exact (hpn u hm).2)).mine hcp
      have hgp : ∀ n u, findU post n = some u → 0 < S'.gen n := by
        intro n u hf
        obtain ⟨hm, e⟩ := findU_mem_of hf
        have p1 := (hpost u hm).1
        rw [e] at p1
        rw [p1]
        exact (hpn u hm).2
      have hB' : ∀ n, findU post n = none → 0 < S2.gen n → 0 < (β n).c → (β n).b < w.heap.size ∧ ¬ T.tch (β n).b := by
        intro n hf hn' hcp
        rw [eg, hf] at hn'
        obtain ⟨cs, E, h1, _⟩ := (h.boxes n hn').ex hcp
        exact ⟨(Array.getElem?_eq_some_iff.1 h1).1, hTn n (hnone n hf) hn' hcp⟩
      rw [hβ2] at hcn e
      rw [hβ2 m] at hcm e
      cases hf : findU post n with
      | none =>
        rw [hf] at hcn e
        cases hf' : findU post m with
        | none =>
          rw [hf'] at hcm e
          rw [eg, hf] at hn
          rw [eg, hf'] at hm
          exact h.binj n m hn hm hcn hcm e
        | some u' =>
          rw [hf'] at hcm e
          have h1 := hB' n hf hn hcn
          have h2 := hA m u' hf' hcm
          simp only at e
          rw [e] at h1
          rcases h2 with h2 | h2
          · omega
          · exact absurd h2 h1.2
      | some u =>
        rw [hf] at hcn e
        cases hf' : findU post m with
        | none =>
          rw [hf'] at hcm e
          have h1 := hB' m hf' hm hcm
          have h2 := hA n u hf hcn
          simp only at e
          rw [e] at h2
          rcases h2 with h2 | h2
          · omega
          · exact absurd h2 h1.2
        | some u' =>
          rw [hf'] at hcm e
          exact hc.binj n m (hgp n u hf) (hgp m u' hf') hcn hcm e
    · rcases hown2 l hl with ⟨n, k, u, rfl, hf, hu, hx, e1, e2⟩ | ⟨hx, hln, e1, e2⟩
      · rw [e1, e2]
        exact (hc.own _ hx).lift hT h.size
      · rw [e1, e2]
        refine (h.own l hx).same fun b hb => ?_
        obtain ⟨q1, q2⟩ := hrowB l hx hln b hb
        exact hc.frame b q1 q2
    · rw [eob] at hl
      rw [eb, eg]
      cases hf : findU post n with
      | none =>
        rw [hf] at hl
        exact h.live n k hl
      | some u =>
        rw [hf] at hl
        obtain ⟨hm, e⟩ := findU_mem_of hf
        obtain ⟨p1, p2, p3⟩ := hpost u hm
        have hx := hc.live _ _ (p3 k hl)
        rw [p2] at hx
        exact ⟨(hpn u hm).2, hx.2⟩
    · have hrowA : ∀ n k, S'.own (.b n k) = true → ∀ b, rowOf (vat a1 w' β' (.b n k)) = some b → w.heap.size ≤ b ∨ T.tch b := fun n k hx b hb => ((hc.own _ hx).rowFr hb).2
      rcases hown2 l hl with ⟨n, k, u, rfl, hf, hu, hx, e1, e2⟩ | ⟨hx, hln, e1, e2⟩
      · rw [e1] at hbr
        rcases hown2 l' hl' with ⟨n', k', u', rfl, hf', hu', hx', e1', e2'⟩ | ⟨hx', hln', e1', e2'⟩
        · rw [e1']
          exact hc.oinj _ _ hx hx' hne b hbr
        · rw [e1']
          intro hb'
          obtain ⟨q1, q2⟩ := hrowB l' hx' hln' b hb'
          rcases hrowA n k hx b hbr with q | q
          · omega
          · exact q2 q
      · rw [e1] at hbr
        rcases hown2 l' hl' with ⟨n', k', u', rfl, hf', hu', hx', e1', e2'⟩ | ⟨hx', hln', e1', e2'⟩
        · rw [e1']
          intro hb'
          obtain ⟨q1, q2⟩ := hrowB l hx hln b hbr
          rcases hrowA n' k' hx' b hb' with q | q
          · omega
          · exact q2 q
        · rw [e1']
          exact h.oinj l l' hx hx' hne b hbr
  · rcases hown2 l hl with ⟨n, k, u, rfl, hf, hu, hx, e1, e2⟩ | ⟨hx, hln, e1, e2⟩
    · exact .inl ⟨n, k, rfl, hx, e1⟩
    · refine .inr fun b hb => ?_
      rw [e1] at hb
      exact hrowB l hx hln b hb
end

/-- The effect of a call. -/
def callE (o : Oper) (r : PV) (ro : Nat → Bool) : Eff := ⟨o.dst, r, ro, fun _ => false, []⟩

/-- An operation's effect. -/
def opStep (P : Program) (N : Nat) (tr : List Nat) (o : Oper) (S : PS) (E : Eff) : Prop :=
  match o.op with
  | .call ⟨.value x, args, _⟩ => dstOk N o = true ∧
    if isCb tr o = true then ∃ (f : FuncId) (caps : List PV) (ns : List Nat) (fo : Nat) (r : PV) (ro : Nat → Bool) (post : List Upd), fnOf (S.ev x) = some (f, caps) ∧ (∀ n ∈ ns, 0 < S.gen n) ∧ Meets P fo (fun n => S.gen n + 1) f (args.toList.map S.ev ++ caps) (ns.map (snap S)) r ro post ∧ (isOut tr o = true → ∀ u ∈ post, nws tr S.fo u.n = true) ∧ E = ⟨o.dst, r, ro, fun _ => false, post⟩
    else ∃ f caps r ro, fnOf (S.ev x) = some (f, caps) ∧ (args.toList.map S.ev ++ caps).all ptrFree = true ∧ Holds P f (args.toList.map S.ev ++ caps) r ro ∧ E = callE o r ro
  | _ => effF P N tr S o = some E

section
variable {P : Program} {N : Nat} {tch : Env} {w0 : World} {fr0 : Nat → Option Nat} {S : PS} {a : Act} {w : World} {fr : Nat → Option Nat} {β : Nat → Blk}

theorem Sim.freshOf {S1 : PS} {a1 : Act} {w' : World} {fr' : Nat → Option Nat} {β1 : Nat → Blk} {n : Nat} (h : Sim n Env.free w fr S1 a1 w' fr' β1) : Fresh w fr w' fr' :=
  ⟨h.os, h.tape, h.output, h.size, fun b hb => (h.frame b hb (by simp [Env.free])).1, fun b hb => (h.frame b hb (by simp [Env.free])).2, h.frb⟩

theorem run_enter {f : FuncId} {fn : Func} {c : Code} (hf : P.funcs[f]? = some fn) (hname : (fn.name == "runtime.NumGoroutine") = false) (hb : fn.body = some c) (args : Array Value) (w : World) :
    (callFunc f args).run P w = .ok (.enter f args) w := by
  have h1 : fn.name ≠ "runtime.NumGoroutine" := by simpa using hname
  simp [callFunc, hf, h1, hb]

theorem own_vpart {tch : Env} {w0 w : World} {fr : Nat → Option Nat} {v : Value} {p : PV} (h : OwnOk tch w0 w fr v p) : ∃ A n c, v = .slice A n c := by
  obtain ⟨xs, rfl, h⟩ := h
  rcases h with ⟨A, n, rfl⟩ | ⟨b, c, cur, E, sz, rfl, _⟩
  · exact ⟨A, n, n, rfl⟩
  · exact ⟨_, _, _, rfl⟩

theorem fnOf_inv {v : Value} {p : PV} {f : FuncId} {caps : List PV} {gen : Nat → Nat} (h : PRep w fr β gen v p) (hf : fnOf p = some (f, caps)) :
    ∃ vs : List Value, v = .func (.func f) #[] vs.toArray ∧ vs.length = caps.length ∧ ∀ (k : Nat) (v : Value) (p : PV), vs[k]? = some v → caps[k]? = some p → PRep w fr β gen v p := by
  unfold fnOf at hf
  split at hf
  · cases hf
    cases h with
    | fn f vs caps hl hh => exact ⟨vs, rfl, hl, hh⟩
  · rename_i f' x y
    split at hf
    · rename_i hc
      cases hf
      obtain rfl : x = #[] := Array.eq_empty_of_size_eq_zero hc.1
      obtain rfl : y = #[] := Array.eq_empty_of_size_eq_zero hc.2
      have := inv_d h
      generalize hx : DV.opq _ = x at this
      cases this <;> cases hx
      exact ⟨[], rfl, rfl, by simp⟩
    · cases hf
  · cases hf

/-- An operation, in its wp. -/
theorem opStep_sound {Q : Exit → Act → World → Prop} (h : Sim N tch w0 fr0 S a w fr β) {tr : List Nat} {o : Oper} {E : Eff} (hs : opStep P N tr o S E) {K : Act → World → Prop}
    (hK : ∀ a' w' fr' β', Sim N tch w0 fr0 (E.apply S) a' w' fr' β' → K a' w') : o.wp P a w K Q := by
  have hplain : effF P N tr S o = some E → o.wp P a w K Q := by
    intro he
    obtain ⟨w', fr', β', hd⟩ := effF_sound (P := P) h he
    unfold Oper.wp
    rcases hd with ⟨v, hrun, hS⟩ | ⟨hrun, hS⟩
    · rw [hrun]; exact hK _ _ _ _ hS
    · rw [hrun]; exact hK _ _ _ _ hS
  unfold opStep at hs
  split at hs
  · rename_i x args ts ho
    obtain ⟨hdok, hs⟩ := hs
    have hd : ∀ d, o.dst = some d → d < N := by
      intro d e
      unfold dstOk at hdok
      rw [e] at hdok
      simpa using hdok
    have hent : ∀ {f caps fn c}, fnOf (S.ev x) = some (f, caps) → P.funcs[f]? = some fn → (fn.name == "runtime.NumGoroutine") = false → fn.body = some c →
        ∃ vs : List Value, vs.length = caps.length ∧ (∀ (k : Nat) (v : Value) (p : PV), vs[k]? = some v → caps[k]? = some p → PRep w fr β S.gen v p) ∧ (execOp a.eval o).run P w = .ok (.enter f (args.map a.eval ++ vs.toArray)) w := by
      intro f caps fn c hx hf hname hb
      obtain ⟨vs, hu, hl, hh⟩ := fnOf_inv (h.ev x) hx
      refine ⟨vs, hl, hh, ?_⟩
      simp only [execOp, ho, resolve, hu, Deferred.ofValue, invoke, Sem.run_bind, Sem.run_pure, Result.andThen_ok]
      have := run_enter hf hname hb (args.map a.eval ++ vs.toArray) w
      simpa using this
    have hargs : ∀ {vs : List Value} {caps : List PV}, vs.length = caps.length → (∀ (k : Nat) (v : Value) (p : PV), vs[k]? = some v → caps[k]? = some p → PRep w fr β S.gen v p) →
        ∀ (i : Nat) (v : Value) (p : PV), (args.map a.eval ++ vs.toArray)[i]? = some v → (args.toList.map S.ev ++ caps)[i]? = some p → PRep w fr β S.gen v p := by
      intro vs caps hl hh i v p hv hp
      by_cases hi : i < args.size
      · rw [Array.getElem?_append_left (by simpa using hi)] at hv
        rw [List.getElem?_append_left (by simpa using hi)] at hp
        simp [hi] at hv hp
        subst hv hp
        exact h.ev _
      · rw [Array.getElem?_append_right (by simpa using hi)] at hv
        rw [List.getElem?_append_right (by simpa using hi)] at hp
        exact hh _ v p (by simpa using hv) (by simpa using hp)
    split at hs
    · obtain ⟨f, caps, ns, fo, r, ro, post, hx, hns, ⟨⟨fn, c, hf, hname, hb⟩, hnr, hpn, hpre, hM⟩, _, rfl⟩ := hs
      obtain ⟨vs, hl, hh, hrun⟩ := hent hx hf hname hb
      unfold Oper.wp
      rw [hrun]
      simp only [Oper.upon]
      have hE := h.enter hns fo (args := args.toList.map S.ev ++ caps) (vs := args.map a.eval ++ vs.toArray) (by simp [hl]) (hargs hl hh)
      refine (hM _ w fr _ _ (by simp [hl]) hE).mono ?_
      rintro e w' ⟨v, fr', S', β', rfl, hS', hr, hro, hpost⟩
      have hpre' : ∀ n ∈ ns, n ∈ post.map (·.n) := fun n hn => hpre _ (List.mem_map.2 ⟨n, hn, rfl⟩)
      obtain ⟨β2, hL, hin, hTm, hrow⟩ := h.leave hns hS' hpn hpre' hpost
      have hP := hL.putv ⟨o.dst, r, ro, fun _ => false, []⟩ rfl v hd (by
          have := hS'.vals 0
          rw [hr] at this
          exact names_rep hin this hnr) (fun j hj => by
          have := hS'.own _ (hro j hj)
          have e1 : S'.at (.t 0 j) = r.part j := by simp only [PS.at, hr]
          rw [e1] at this
          exact this.lift hTm h.size) (fun j hj b hbr l hl' hc hcon => by
          rcases hrow l hl' with ⟨n, k, rfl, hx, e1⟩ | hB
          · rw [e1] at hcon
            exact hS'.oinj (.t 0 j) (.b n k) (hro j hj) hx (by simp) b hbr hcon
          · obtain ⟨q1, q2⟩ := hB b hcon
            rcases ((hS'.own _ (hro j hj)).rowFr hbr).2 with q | q
            · omega
            · exact q2 q) (fun j j' hj hj' hne b hbr => hS'.oinj (.t 0 j) (.t 0 j') (hro j hj) (hro j' hj') (fun e => hne (by cases e; rfl)) b hbr)
      have hap : (⟨o.dst, r, ro, fun _ => false, []⟩ : Eff).apply ((⟨none, .undef, fun _ => false, fun _ => false, post⟩ : Eff).apply S) = (⟨o.dst, r, ro, fun _ => false, post⟩ : Eff).apply S := by
        simp only [Eff.apply, findU_nil, Bool.not_false, Bool.and_true]
        congr 1
      rw [hap] at hP
      exact hK _ w' fr' β2 hP
    · obtain ⟨f, caps, r, ro, hx, hall, ⟨⟨fn, c, hf, hname, hb⟩, hpr, hH⟩, rfl⟩ := hs
      obtain ⟨vs, hl, hh, hrun⟩ := hent hx hf hname hb
      unfold Oper.wp
      rw [hrun]
      simp only [Oper.upon]
      refine (hH (args.map a.eval ++ vs.toArray) w fr (by simp [hl]) h.frb (fun i v p hv hp => ?_)).mono ?_
      · have hfree : ptrFree p = true := List.all_eq_true.1 hall p (List.mem_of_getElem? hp)
        exact ptrFree_rep hfree (β := β) (gen := S.gen) (hargs hl hh i v p hv hp)
      · rintro e w' ⟨v, fr', S', β', rfl, hS', hr, hro⟩
        have hfx := hS'.freshOf
        have hS := h.fresh hfx
        refine hK _ w' fr' β (hS.putv (callE o r ro) rfl v hd ?_ (fun j hj => ?_) (fun j hj b hbr l hl' hc => ?_) (fun j j' hj hj' hne b hbr => ?_))
        · have := hS'.vals 0
          rw [hr] at this
          exact ptrFree_rep hpr this
        · have := hS'.own _ (hro j hj)
          have e1 : S'.at (.t 0 j) = r.part j := by simp only [PS.at, hr]
          rw [e1] at this
          obtain ⟨xs, e2, hh2⟩ := this
          refine ⟨xs, e2, ?_⟩
          rcases hh2 with hh2 | ⟨b, c, cur, E, sz, q1, q2, q3, q4, q5, q6, q7, q8, q9⟩
          · exact .inl hh2
          · refine .inr ⟨b, c, cur, E, sz, q1, q2, q3, q4, q5, q6, q7, q8, ?_⟩
            rcases q9 with q9 | q9
            · exact .inl (Nat.le_trans h.size q9)
            · exact q9.elim
        · have hown := hS'.own _ (hro j hj)
          obtain ⟨xs, e2, hh2⟩ := hown
          have hbn : w.heap.size ≤ b := by
            rcases hh2 with ⟨A, n, q⟩ | ⟨b', c, cur, E, sz, q1, q2, q3, q4, q5, q6, q7, q8, q9⟩
            · have q' : vpart v j = .slice A n n := q
              rw [q'] at hbr
              cases A <;> simp [rowOf] at hbr
            · have q' : vpart v j = .slice (some ⟨b', 0, none⟩) xs.length c := q1
              rw [q'] at hbr
              simp [rowOf, q2] at hbr
              subst hbr
              rcases q9 with q9 | q9
              · exact q9
              · exact q9.elim
          intro hcon
          have hvl : vat a w' β l = vat a w β l := by
            cases l with
            | t i j => rfl
            | b n k =>
              have hlv := h.live n k hl'
              obtain ⟨cs, E, hcc, _⟩ := (h.boxes n hlv.1).ex ((h.boxes n hlv.1).at hlv.2)
              simp only [vat]
              rw [hfx.cell (Array.getElem?_eq_some_iff.1 hcc).1]
          rw [hvl] at hcon
          have := (h.own l hl').row hcon
          omega
        · exact hS'.oinj (.t 0 j) (.t 0 j') (hro j hj) (hro j' hj') (fun e => hne (by cases e; rfl)) b hbr
  · exact hplain hs

/-- Is an operation to be done? -/
def gd (ops : Array Oper) (o : Oper) (S : PS) : Bool :=
  match o.guard with
  | none => true
  | some (j, want) =>
    match (ops[j]?).bind (·.dst) with
    | some d => match S.t d with | .d (.bool b) => b == want | _ => false
    | none => false

theorem not_bool {gen : Nat → Nat} {v : Value} {p : PV} (h : PRep w fr β gen v p) (hp : ∀ b, p ≠ .d (.bool b)) (b : Bool) : v ≠ .bool b := by
  cases h with
  | d v x h =>
    cases h with
    | bool b' => exact absurd rfl (hp b')
    | opq v hb _ => exact hb b
    | _ => simp
  | any v hb => exact hb b
  | _ => simp

theorem gd_sound (h : Sim N tch w0 fr0 S a w fr β) (ops : Array Oper) (o : Oper) (hd : ∀ (j : Nat) (x : Oper) (d : Nat), ops[j]? = some x → x.dst = some d → d < N) : Region.wanted o (yielded ops a.tmps) = gd ops o S := by
  unfold Region.wanted gd
  cases hg : o.guard with
  | none => rfl
  | some g =>
    obtain ⟨j, want⟩ := g
    simp only
    unfold yielded
    cases hj : (ops[j]?).bind (·.dst) with
    | none => rfl
    | some d =>
      simp only [Option.bind_some]
      have hdN : d < a.tmps.size := by
        rw [h.ntmps]
        obtain ⟨x, hx, hxd⟩ := Option.bind_eq_some_iff.1 hj
        exact hd j x d hx hxd
      have hv := h.vals d
      have hgd : a.tmps.getD d undef = a.tmps[d] := by simp [Array.getD_eq_getD_getElem?, hdN]
      rw [hgd] at hv
      rw [Array.getElem?_eq_getElem hdN]
      generalize a.tmps[d] = z at hv
      by_cases hb : ∃ b, S.t d = .d (.bool b)
      · obtain ⟨b, hb⟩ := hb
        rw [hb] at hv
        rw [inv_bool hv, hb]
        cases b <;> cases want <;> rfl
      · have hnb := not_bool hv fun b e => hb ⟨b, e⟩
        have e2 : (match S.t d with | .d (.bool b) => b == want | _ => false) = false := by
          split
          · rename_i b e
            exact absurd ⟨b, e⟩ hb
          · rfl
        rw [e2]
        cases z <;> first | rfl | exact absurd rfl (hnb _)

def skipE (o : Oper) : Eff := ⟨o.dst, .undef, fun _ => false, fun _ => false, []⟩
/-- One operation's effect, its guard heeded. -/
def Stp (P : Program) (N : Nat) (tr : List Nat) (ops : Array Oper) (o : Oper) (S : PS) (E : Eff) : Prop :=
  if gd ops o S = true then opStep P N tr o S E else dstOk N o = true ∧ E = skipE o

def dstsOk (N : Nat) (ops : Array Oper) : Bool := ops.toList.all (dstOk N)
theorem dstsOk_spec {ops : Array Oper} (h : dstsOk N ops = true) (j : Nat) (x : Oper) (d : Nat) (hx : ops[j]? = some x) (hd : x.dst = some d) : d < N := by
  have := List.all_eq_true.1 h x (List.mem_of_getElem? (by simpa using hx))
  unfold dstOk at this
  rw [hd] at this
  simpa using this

theorem stp_sound {Q : Exit → Act → World → Prop} (h : Sim N tch w0 fr0 S a w fr β) {tr : List Nat} {ops : Array Oper} (hN : dstsOk N ops = true) {i : Nat} {o : Oper} (hi : ops[i]? = some o) {E : Eff} (hs : Stp P N tr ops o S E) {K : Act → World → Prop}
    (hK : ∀ a' w' fr' β', Sim N tch w0 fr0 (E.apply S) a' w' fr' β' → K a' w') : wpOp P ops Q i K a w := by
  unfold wpOp
  rw [hi]
  simp only
  rw [gd_sound h ops o (dstsOk_spec hN)]
  unfold Stp at hs
  split at hs
  · rename_i hg
    rw [if_pos hg]
    exact .inl (opStep_sound h hs hK)
  · rename_i hg
    rw [if_neg hg]
    obtain ⟨hd, rfl⟩ := hs
    refine hK _ _ fr β (h.put0 o.dst undef .undef (fun d e => dstsOk_spec hN i o d hi e) opq_undef)
end

end BoEng
