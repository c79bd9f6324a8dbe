/- Options read and set: what the program's opts and the document's layer 5 both answer. -/
import Derived.Test.YtimlalndjfmnbaaDoorPut
import Derived.Test.YtimlalndjfmnbaaDoorConfP
namespace Go.Proofs.YtimlalndjfmnbaaDoor
open BoEng Go
set_option maxRecDepth 100000
attribute [-simp] List.map_take List.map_drop List.length_flatMap
set_option linter.unusedSimpArgs false
set_option linter.unusedVariables false

/-- The codes asked for. -/
def listS (l : List Opt) : List UInt8 := (findS l 55).getD []
def wantsS (l : List Opt) (c : Int) : Bool := (listS l).any fun b => decide ((b.toNat : Int) = c)
def dropS (c : Int) (o : Opt) : List Opt := if o.code = c then [] else [o]
/-- Options with one of a code. -/
def keepS (l : List Opt) (c : Int) (b : List UInt8) : List Opt := l.flatMap (dropS c) ++ [⟨c, b⟩]
def keepOk (c : Int) (b : List UInt8) : Bool := decide ((1 ≤ c ∧ c ≤ 254) ∧ b.length ≤ 600)
theorem dropS_len (c : Int) (o : Opt) : (dropS c o).length ≤ 1 := by unfold dropS; split <;> simp
theorem flatM_len {α β : Type} {g : α → List β} (h : ∀ o, (g o).length ≤ 1) : ∀ l : List α, (l.flatMap g).length ≤ l.length
  | [] => by simp
  | o :: l => by
    have := h o
    have := flatM_len h l
    simp only [List.flatMap_cons, List.length_append, List.length_cons]
    omega
theorem flatM_take {α β : Type} {g : α → List β} {l : List α} {i : Nat} (h : i < l.length) : (l.take (i + 1)).flatMap g = (l.take i).flatMap g ++ g l[i] := by
  rw [List.take_succ_eq_append_getElem h, List.flatMap_append]
  simp

theorem ref02PutI (n : Nat) (v : Int) (hn : n ≤ 7) (h0 : 0 ≤ v) (h1 : v ≤ 9223372036854775807) : Holds Tryd.prog 37 [.d (.int .i64 v), .d (.int .i64 n)] (.d (.slice ((putI v n).map byteD))) (fun j => j == 0) := by
  induction n generalizing v with
  | zero =>
    refine Holds.by (by kernel_rfl) Tryd.func37 (by kernel_rfl) rfl [] (by simp) (by kernel_rfl) (by kernel_rfl) rfl ?_
    conv in ccs _ => cbv
    simp (config := sc) (disch := try exact dd) [std, putI]
  | succ n ih =>
    have q := ih (v / 256) (by omega) (by omega) (by omega)
    refine Holds.by (by kernel_rfl) Tryd.func37 (by kernel_rfl) rfl [11] (by simp) (by kernel_rfl) (by kernel_rfl) rfl ?_
    conv in ccs _ => cbv
    have hd : v.tdiv 256 = v / 256 := Int.tdiv_eq_ediv_of_nonneg h0
    have hm : v.tmod 256 = v % 256 := Int.tmod_eq_emod_of_nonneg h0
    have hx : lowB (v % 256) = lowB v := by simp [lowB]
    have hw : (n : Int) + 1 - 1 = n := by omega
    have hw2 : IntKind.i64.wrap (v / 256) = v / 256 := wrap_in (by omega)
    have k : ¬ ((n : Int) + 1 = 0) := by omega
    simp (config := sc) (disch := try exact dd) [std, hd, hm, hw, hw2, k]
    refine oc q ?_
    simp (config := sc) (disch := try exact dd) [std, hd, hm, hw, hw2, k, u8_wrapB, hx, putI]

def oeI (l : List Opt) (f : FuncId) (cs : List DV) (g : Opt → List Opt) (i : Nat) (S : PS) : Prop :=
  i ≤ l.length ∧ S.t 1 = .fn f [.cptr cs] ∧ S.t 8 = .d (.slice (l.map Opt.d)) ∧ S.t 9 = .d (.int .i64 l.length) ∧ S.t 10 = .d (.int .i64 i) ∧ S.t 5 = .d (.slice (((l.take i).flatMap g).map Opt.d)) ∧ S.own (.t 5 0) = true
theorem optsEachO (l : List Opt) (hl : sized l) (f : FuncId) (cs : List DV) (g : Opt → List Opt) (hg : ∀ o, (g o).length ≤ 1) {ro : Nat → Bool} (hf : ∀ o ∈ l, Holds Tryd.prog f [.d o.d, .cptr cs] (.d (.slice ((g o).map Opt.d))) ro) :
    Holds Tryd.prog 68 [.d (.slice (l.map Opt.d)), .fn f [.cptr cs]] (.d (.slice ((l.flatMap g).map Opt.d))) (fun j => j == 0) := by
  refine Holds.by (by kernel_rfl) Tryd.func68 (by kernel_rfl) rfl [14, 20] (by simp) (by kernel_rfl) (by kernel_rfl) rfl ?_
  conv in ccs _ => cbv
  have hs := hl.1
  simp (config := sc) (disch := try exact dd) [std]
  refine lp (oeI l f cs g) (fun i => l.length - i) 0 ⟨by omega, by simp⟩ ?_
  rintro i S ⟨hi, e1, e8, e9, e10, e5, eo⟩
  by_cases hlt : i < l.length
  · have k6 : (i : Int) < l.length := by omega
    have h1 := flatM_len hg (l.take i)
    have h2 : (l.take i).length ≤ 100000 := by simp; omega
    have h3 := hg l[i]
    have ht := flatM_take (g := g) hlt
    simp (config := sc) (disch := try exact dd) [std, e1, e8, e9, e10, e5, eo, k6]
    refine oc (hf (l[i]) (List.getElem_mem hlt)) ?_
    simp (config := sc) (disch := try exact dd) [std, e1, e8, e9, e10, e5, eo, k6]
    exact nxt_of (i + 1) ⟨by omega, by simp (config := sc) (disch := try exact dd) [*, std, ht]⟩ (by omega)
  · have k6 : ¬ (i : Int) < l.length := by omega
    have : l.take i = l := List.take_of_length_le (by omega)
    simp (config := sc) (disch := try exact dd) [std, e1, e8, e9, e10, e5, eo, k6, this]

theorem optsDrop (o : Opt) (c : Int) (ho : o.data.length ≤ 100000) : Holds Tryd.prog 69 [.d o.d, .cptr [.int .i64 c]] (.d (.slice ((dropS c o).map Opt.d))) (fun _ => false) := by
  refine Holds.by (by kernel_rfl) Tryd.func69 (by kernel_rfl) rfl [20002] (by simp) (by kernel_rfl) (by kernel_rfl) rfl ?_
  conv in ccs _ => cbv
  by_cases h : o.code = c
  · simp (config := sc) (disch := try exact dd) [std, h, dropS]
  · simp (config := sc) (disch := try exact dd) [std, h, dropS]
theorem optsKeep (l : List Opt) (c : Int) (b : List UInt8) (hl : sized l) : Holds Tryd.prog 53 [.d (.slice (l.map Opt.d)), .d (.int .i64 c), .d (.slice (b.map byteD))] (.tup [.d (.slice ((if keepOk c b then keepS l c b else []).map Opt.d)), .d (.int .i64 (if keepOk c b then 0 else 1))]) (fun _ => false) := by
  refine Holds.by (by kernel_rfl) Tryd.func53 (by kernel_rfl) rfl [20004, 23] (by simp) (by kernel_rfl) (by kernel_rfl) rfl ?_
  conv in ccs _ => cbv
  have q := optsEachO l hl 69 [.int .i64 c] (dropS c) (dropS_len c) (fun o ho => optsDrop o c (hl.2 o ho))
  by_cases h : (1 ≤ c ∧ c ≤ 254) ∧ b.length ≤ 600
  · have hE : keepOk c b = true := by simp only [keepOk, decide_eq_true_eq]; exact h
    have k1 : ¬ c < 1 := by omega
    have k2 : ¬ 254 < c := by omega
    have k3 : ¬ (600 : Int) < b.length := by omega
    have h1 := flatM_len (dropS_len c) l
    have hs := hl.1
    rw [hE]
    simp (config := sc) (disch := try exact dd) [std, k1, k2, k3]
    refine oc q ?_
    simp (config := sc) (disch := try exact dd) [std, k1, k2, k3, keepS]
  · have hE : keepOk c b = false := by simp only [keepOk, decide_eq_false_iff_not]; exact h
    rw [hE]
    by_cases k1 : c < 1
    · simp (config := sc) (disch := try exact dd) [std, k1]
    · by_cases k2 : 254 < c
      · simp (config := sc) (disch := try exact dd) [std, k1, k2]
      · have k3 : (600 : Int) < b.length := by omega
        simp (config := sc) (disch := try exact dd) [std, k1, k2, k3]

def setOk (c v : Int) (n : Nat) : Bool := putOk v n && decide (1 ≤ c ∧ c ≤ 254)
theorem optsSet (l : List Opt) (c v : Int) (n : Nat) (hl : sized l) : Holds Tryd.prog 51 [.d (.slice (l.map Opt.d)), .d (.int .i64 c), .d (.int .i64 v), .d (.int .i64 n)] (.tup [.d (.slice ((if setOk c v n then keepS l c (putI v n) else []).map Opt.d)), .d (.int .i64 (if setOk c v n then 0 else 1))]) (fun _ => false) := by
  refine Holds.by (by kernel_rfl) Tryd.func51 (by kernel_rfl) rfl [] (by simp) (by kernel_rfl) (by kernel_rfl) rfl ?_
  conv in ccs _ => cbv
  have q1 := codePut v n
  have q2 := optsKeep l c (putI v n) hl
  cases h : putOk v n with
  | false =>
    have hE : setOk c v n = false := by simp [setOk, h]
    rw [h] at q1
    rw [hE]
    repeat' (first | (simp (config := sc) (disch := try exact dd) [*, std]) | (refine oc (q1) ?_) | (refine sel_by ?_ ?_ <;> intro hc <;> have hc2 := hc <;> (try simp only [decide_eq_true_eq, decide_eq_false_iff_not, Bool.and_eq_true, Bool.or_eq_true, Bool.not_eq_true', Bool.not_eq_false', Bool.or_eq_false_iff, Bool.and_eq_false_iff] at hc2) <;> try omega) | (refine cnd_by ?_ ?_ <;> intro hc <;> have hc2 := hc <;> (try simp only [decide_eq_true_eq, decide_eq_false_iff_not, Bool.and_eq_true, Bool.or_eq_true, Bool.not_eq_true', Bool.not_eq_false', Bool.or_eq_false_iff, Bool.and_eq_false_iff] at hc2) <;> try omega) | (refine onSt_if (by omega) ?_) | (split <;> try omega) | omega)
  | true =>
    have hn : n ≤ 7 := by simp only [putOk, decide_eq_true_eq] at h; omega
    have hE : setOk c v n = keepOk c (putI v n) := by
      have : n ≤ 600 := by omega
      simp [setOk, h, keepOk, this]
    rw [h] at q1
    rw [hE]
    repeat' (first | (simp (config := sc) (disch := try exact dd) [*, std]) | (refine oc (q1) ?_) | (refine oc (q2) ?_) | (refine sel_by ?_ ?_ <;> intro hc <;> have hc2 := hc <;> (try simp only [decide_eq_true_eq, decide_eq_false_iff_not, Bool.and_eq_true, Bool.or_eq_true, Bool.not_eq_true', Bool.not_eq_false', Bool.or_eq_false_iff, Bool.and_eq_false_iff] at hc2) <;> try omega) | (refine cnd_by ?_ ?_ <;> intro hc <;> have hc2 := hc <;> (try simp only [decide_eq_true_eq, decide_eq_false_iff_not, Bool.and_eq_true, Bool.or_eq_true, Bool.not_eq_true', Bool.not_eq_false', Bool.or_eq_false_iff, Bool.and_eq_false_iff] at hc2) <;> try omega) | (refine onSt_if (by omega) ?_) | (split <;> try omega) | omega)

theorem optsByte (b : UInt8) : Holds Tryd.prog 87 [.d (byteD b)] (.d (.slice [.int .i64 (b.toNat : Nat)])) (fun _ => false) := by
  refine Holds.by (by kernel_rfl) Tryd.func87 (by kernel_rfl) rfl [] (by simp) (by kernel_rfl) (by kernel_rfl) rfl ?_
  conv in ccs _ => cbv
  have hw := u8_wrap b
  simp (config := sc) (disch := try exact dd) [std, hw]
def byteI (b : UInt8) : DV := .int .i64 (b.toNat : Nat)
@[simp] theorem byteI_eq (b : UInt8) : byteI b = .int .i64 (b.toNat : Nat) := rfl
def leI (l : List UInt8) (i : Nat) (S : PS) : Prop :=
  i ≤ l.length ∧ S.t 1 = .fn 87 [] ∧ S.t 8 = .d (.slice (l.map byteD)) ∧ S.t 9 = .d (.int .i64 l.length) ∧ S.t 10 = .d (.int .i64 i) ∧ S.t 5 = .d (.slice ((l.take i).map byteI)) ∧ S.own (.t 5 0) = true
theorem optsEachB (l : List UInt8) (hl : l.length ≤ 100000) :
    Holds Tryd.prog 86 [.d (.slice (l.map byteD)), .fn 87 []] (.d (.slice (l.map byteI))) (fun j => j == 0) := by
  refine Holds.by (by kernel_rfl) Tryd.func86 (by kernel_rfl) rfl [14, 20] (by simp) (by kernel_rfl) (by kernel_rfl) rfl ?_
  conv in ccs _ => cbv
  simp (config := sc) (disch := try exact dd) [std]
  refine lp (leI l) (fun i => l.length - i) 0 ⟨by omega, by simp⟩ ?_
  rintro i S ⟨hi, e1, e8, e9, e10, e5, eo⟩
  by_cases hlt : i < l.length
  · have k6 : (i : Int) < l.length := by omega
    have ht : (l.take (i + 1)).map byteI = (l.take i).map byteI ++ [.int .i64 (l[i].toNat : Nat)] := by rw [List.take_succ_eq_append_getElem hlt, List.map_append]; rfl
    simp (config := sc) (disch := try exact dd) [std, e1, e8, e9, e10, e5, eo, k6]
    refine oc (optsByte (l[i])) ?_
    simp (config := sc) (disch := try exact dd) [std, e1, e8, e9, e10, e5, eo, k6]
    exact nxt_of (i + 1) ⟨by omega, by simp (config := sc) (disch := try exact dd) [*, std, ht]⟩ (by omega)
  · have k6 : ¬ (i : Int) < l.length := by omega
    have : l.take i = l := List.take_of_length_le (by omega)
    simp (config := sc) (disch := try exact dd) [std, e1, e8, e9, e10, e5, eo, k6, this]
theorem optsListed (l : List Opt) (hl : sized l) : Holds Tryd.prog 80 [.d (.slice (l.map Opt.d))] (.d (.slice ((listS l).map byteI))) (fun _ => false) := by
  refine Holds.by (by kernel_rfl) Tryd.func80 (by kernel_rfl) rfl [] (by simp) (by kernel_rfl) (by kernel_rfl) rfl ?_
  conv in ccs _ => cbv
  have q1 := tlvFind l 55 hl
  have hz : (listS l).length ≤ 100000 := by
    unfold listS
    cases h : findS l 55 with
    | none => simp
    | some d => simpa using findS_sized hl h
  have q2 := optsEachB (listS l) hz
  have hd : (findS l 55).getD [] = listS l := rfl
  rw [hd] at q1
  simp (config := sc) (disch := try exact dd) [std]
  refine oc q1 ?_
  simp (config := sc) (disch := try exact dd) [std]
  refine oc q2 ?_
  simp (config := sc) (disch := try exact dd) [std]
def owI (l : List UInt8) (c : Int) (i : Nat) (S : PS) : Prop :=
  i ≤ l.length ∧ (l.take i).all (fun b => !decide ((b.toNat : Int) = c)) = true ∧ S.t 1 = .d (.int .i64 c) ∧ S.t 8 = .d (.slice (l.map byteI)) ∧ S.t 9 = .d (.int .i64 l.length) ∧ S.t 10 = .d (.int .i64 i)
theorem any_not {α : Type} {p : α → Bool} {l : List α} : l.any p = !l.all fun x => !p x := by simp [List.all_eq_not_any_not]
theorem optsWants (l : List Opt) (c : Int) (hl : sized l) : Holds Tryd.prog 66 [.d (.slice (l.map Opt.d)), .d (.int .i64 c)] (.d (.bool (wantsS l c))) (fun _ => false) := by
  refine Holds.by (by kernel_rfl) Tryd.func66 (by kernel_rfl) rfl [] (by simp) (by kernel_rfl) (by kernel_rfl) rfl ?_
  conv in ccs _ => cbv
  have hz : (listS l).length ≤ 100000 := by
    unfold listS
    cases h : findS l 55 with
    | none => simp
    | some d => simpa using findS_sized hl h
  simp (config := sc) (disch := try exact dd) [std]
  refine oc (optsListed l hl) ?_
  unfold wantsS
  generalize listS l = d at hz
  rw [any_not]
  simp (config := sc) (disch := try exact dd) [std]
  refine lp (owI d c) (fun i => d.length - i) 0 ⟨by omega, by simp, by simp⟩ ?_
  rintro i S ⟨hi, ha, e1, e8, e9, e10⟩
  by_cases hlt : i < d.length
  · have k6 : (i : Int) < d.length := by omega
    by_cases hc : (d[i].toNat : Int) = c
    · have hb := allc_bad (p := fun b : UInt8 => !decide ((b.toNat : Int) = c)) hlt (by simp [hc])
      simp (config := sc) (disch := try exact dd) [std, e1, e8, e9, e10, k6, hc, hb]
    · have hb := allc_step (p := fun b : UInt8 => !decide ((b.toNat : Int) = c)) hlt ha (by simp [hc])
      simp (config := sc) (disch := try exact dd) [std, e1, e8, e9, e10, k6, hc]
      exact nxt_of (i + 1) ⟨by omega, hb, by simp (config := sc) (disch := try exact dd) [std, e1, e8, e9, e10]⟩ (by omega)
  · have k6 : ¬ (i : Int) < d.length := by omega
    have hb := allc_end hlt ha
    simp (config := sc) (disch := try exact dd) [std, e1, e8, e9, e10, k6, hb]

end Go.Proofs.YtimlalndjfmnbaaDoor
