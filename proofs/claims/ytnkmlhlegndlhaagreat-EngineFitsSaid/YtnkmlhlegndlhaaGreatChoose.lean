/- The address that a client gets: what alloc and the document's layer 15 answer. -/
import Derived.Test.YtnkmlhlegndlhaaGreatMay
import Derived.Test.YtnkmlhlegndlhaaGreatMake
namespace Go.Proofs.YtnkmlhlegndlhaaGreat
open BoEng Go
set_option maxRecDepth 100000
attribute [-simp] List.map_take List.map_drop List.length_flatMap
set_option linter.unusedSimpArgs false
set_option linter.unusedVariables false
theorem fnd_hit {α : Type} {l : List α} {p : α → Bool} {i : Nat} (h : i < l.length) (ha : (l.take i).all (fun y => !p y) = true) (hp : p l[i] = true) : l.find? p = some l[i] := by
 have e : l = l.take i ++ l[i] :: l.drop (i + 1) := by rw [← List.drop_eq_getElem_cons h, List.take_append_drop]
 have hn : (l.take i).find? p = none := by
  rw [List.find?_eq_none]
  intro x hx
  have := List.all_eq_true.1 ha x hx
  simpa using this
 conv => lhs; rw [e]
 rw [List.find?_append, hn, Option.none_or, List.find?_cons_of_pos hp]
theorem fnd_out {α : Type} {l : List α} {p : α → Bool} (ha : l.all (fun y => !p y) = true) : l.find? p = none := by
 rw [List.find?_eq_none]
 intro x hx
 have := List.all_eq_true.1 ha x hx
 simpa using this
theorem chooseMay (c : Cfg) (t : List LeaseR) (n : Int) (k : List UInt8) (a now : Int) (hc : sizedC c) (ht : TSz t) (hkk : k.length ≤ 9223372036854775807) :
  Holds Tryz.prog 141 [.d (.int .i64 a), .cptr (cells c.d), .cptr [.slice (t.map LeaseR.d)], .cptr [.int .i64 n], .cptr [.str k], .cptr [.int .i64 now]] (.d (.bool (mayS c t n k now a))) (fun _ => false) := by
 refine Holds.by (by kernel_rfl) Tryz.func141 (by kernel_rfl) rfl [] (by simp) (by kernel_rfl) (by kernel_rfl) rfl ?_
 conv in ccs _ => cbv
 have q := allocMay c t n k a now hc ht hkk
 simp (config := sc) (disch := try exact dd) [std]
 refine oc q ?_
 simp (config := sc) (disch := try exact dd) [std]
def afI (l : List Int) (f : FuncId) (c1 c2 c3 c4 c5 : List DV) (p : Int → Bool) (i : Nat) (S : PS) : Prop :=
 i ≤ l.length ∧ (l.take i).all (fun y => !p y) = true ∧ S.t 1 = .fn f [.cptr c1, .cptr c2, .cptr c3, .cptr c4, .cptr c5] ∧ S.t 8 = .d (.slice (l.map intD)) ∧ S.t 9 = .d (.int .i64 l.length) ∧ S.t 10 = .d (.int .i64 i)
theorem allocFirst (l : List Int) (hl : l.length ≤ 1000000) (f : FuncId) (c1 c2 c3 c4 c5 : List DV) (p : Int → Bool) {ro : Nat → Bool} (hf : ∀ a, Holds Tryz.prog f [.d (.int .i64 a), .cptr c1, .cptr c2, .cptr c3, .cptr c4, .cptr c5] (.d (.bool (p a))) ro) :
  Holds Tryz.prog 142 [.d (.slice (l.map intD)), .fn f [.cptr c1, .cptr c2, .cptr c3, .cptr c4, .cptr c5]] (.tup [.d (.int .i64 ((l.find? p).getD 0)), .d (.bool (l.find? p).isSome)]) (fun _ => false) := by
 refine Holds.by (by kernel_rfl) Tryz.func142 (by kernel_rfl) rfl [] (by simp) (by kernel_rfl) (by kernel_rfl) rfl ?_
 conv in ccs _ => cbv
 simp (config := sc) (disch := try exact dd) [std]
 refine lp (afI l f c1 c2 c3 c4 c5 p) (fun i => l.length - i) 0 ⟨by omega, by simp, by simp, by simp, by simp, by simp⟩ ?_
 rintro i S ⟨hi, ha, e1, e8, e9, e10⟩
 by_cases hlt : i < l.length
 ·have k6 : (i : Int) < l.length := by omega
  have hn : nth l (i : Int) = l[i] := nth_nat hlt
  have q := hf l[i]
  have hhit := fun h => fnd_hit (p := p) hlt ha h
  have hstep := allc_step (p := fun y => !p y) hlt ha
  generalize l[i] = x at *
  cases hp : p x with
  | true =>
    rw [hp] at q
    rw [hhit hp]
    simp (config := sc) (disch := try exact dd) [std, e1, e8, e9, e10, k6, hn, intD]
    refine oc q ?_
    simp (config := sc) (disch := try exact dd) [std, e1, e8, e9, e10]
  | false =>
    rw [hp] at q
    have hs := hstep (by simp [hp])
    clear hstep hhit
    simp (config := sc) (disch := try exact dd) [std, e1, e8, e9, e10, k6, hn, intD]
    refine oc q ?_
    simp (config := sc) (disch := try exact dd) [std, e1, e8, e9, e10]
    exact nxt_of (i + 1) ⟨by omega, hs, by simp (config := sc) (disch := try exact dd) [std, e1], by simp (config := sc) (disch := try exact dd) [std, e8], by simp (config := sc) (disch := try exact dd) [std, e9], by simp (config := sc) (disch := try exact dd) [std]⟩ (by omega)
 ·have k6 : ¬ (i : Int) < l.length := by omega
  rw [List.take_of_length_le (by omega)] at ha
  rw [fnd_out ha]
  simp (config := sc) (disch := try exact dd) [std, e1, e8, e9, e10, k6]
theorem ff_some {α β : Type} {xs : List α} {f : α → List β} {p : β → Bool} {i : Nat} {y : β} (hi : i < xs.length) (ho : ((xs.take i).flatMap f).all (fun y => !p y) = true) (h : (f xs[i]).find? p = some y) : (xs.flatMap f).find? p = some y := by
 have e : xs.flatMap f = (xs.take i).flatMap f ++ (f xs[i] ++ (xs.drop (i + 1)).flatMap f) := by
  conv => lhs; rw [← List.take_append_drop i xs, List.drop_eq_getElem_cons hi, List.flatMap_append, List.flatMap_cons]
 have hn : ((xs.take i).flatMap f).find? p = none := fnd_out ho
 rw [e, List.find?_append, hn, Option.none_or, List.find?_append, h, Option.some_or]
theorem pool_rng {c : Cfg} (h : checkS c = 0) {n j : Nat} (h1 : n < c.nets.length) (h2 : j < c.nets[n].subs.length) {p : Rng} (hp : p ∈ (c.nets[n].subs[j]).pools) : 0 ≤ p.first ∧ p.last ≤ 8589934591 := by
 have hm : (⟨0 + n, j, c.nets[n].subs[j]⟩ : Spot) ∈ spotsS c := mem_spotsF 0 c.nets n j h1 h2
 obtain ⟨_, hfs, _⟩ := check_sub h h1 h2
 have hfa := (fairA_iff.1 (fair_A hfs))
 unfold checkS at h
 split at h
 ·split at h
  ·rename_i hpl
   simp only [placedS, List.all_eq_true] at hpl
   have k2 := hpl _ hm
   simp only [plX, placedX, Bool.and_eq_true, List.all_eq_true] at k2
   have k3 := k2.1.1 _ hp
   simp only [poolOk, insideS, Bool.and_eq_true, decide_eq_true_eq, lastA] at k3
   have hs : sizeA (c.nets[n].subs[j]).bits ≤ 4294967296 := by
    unfold sizeA
    have hx : (32 - (c.nets[n].subs[j]).bits).toNat ≤ 32 := by omega
    have hd : ∀ e, e < 33 → (2 : Int) ^ e ≤ 4294967296 := by decide
    exact hd _ (by omega)
   have k4 := of_decide_eq_true k3.1.1
   have k5 := of_decide_eq_true k3.1.2
   clear k3 k2 hm hpl hfs
   omega
  ·cases h
 ·cases h
def hinP (c : Cfg) (n now : Int) (l : LeaseR) : Bool := inN c n l.addr && holdsL now l
def oinP (c : Cfg) (n now : Int) (l : LeaseR) : Bool := inN c n l.addr && !holdsL now l
def hinA (c : Cfg) (n now : Int) (L : List LeaseR) : List Int := (L.filter (hinP c n now)).map LeaseR.addr
def oinA (c : Cfg) (n now : Int) (L : List LeaseR) : List Int := (L.filter (oinP c n now)).map LeaseR.addr
theorem held_of {c : Cfg} {t : List LeaseR} {n : Int} {k : List UInt8} {now : Int} (h : tableR t = true) : heldS c t n k now = hinA c n now (ofT t k) ∧ oldS c t n k now = oinA c n now (ofT t k) := by
 unfold heldS oldS hinA oinA ofT
 rw [goodT_id h, List.filter_filter, List.filter_filter]
 constructor <;> congr 2 <;> funext l
 ·simp only [heldP, hinP, Bool.and_comm]
 ·simp only [oldP, oinP, Bool.and_comm]
theorem hin_step {c : Cfg} {n now : Int} {L : List LeaseR} {i : Nat} (h : i < L.length) : hinA c n now (L.take (i + 1)) = hinA c n now (L.take i) ++ (if hinP c n now L[i] = true then [L[i].addr] else []) := by
 unfold hinA
 rw [List.take_succ_eq_append_getElem h, List.filter_append, List.map_append]
 congr 1
 by_cases e : hinP c n now L[i] = true <;> simp [e]
theorem oin_step {c : Cfg} {n now : Int} {L : List LeaseR} {i : Nat} (h : i < L.length) : oinA c n now (L.take (i + 1)) = oinA c n now (L.take i) ++ (if oinP c n now L[i] = true then [L[i].addr] else []) := by
 unfold oinA
 rw [List.take_succ_eq_append_getElem h, List.filter_append, List.map_append]
 congr 1
 by_cases e : oinP c n now L[i] = true <;> simp [e]
theorem hin_len {c : Cfg} {n now : Int} {L : List LeaseR} : (hinA c n now L).length ≤ L.length ∧ (oinA c n now L).length ≤ L.length := by
 unfold hinA oinA
 simp only [List.length_map]
 exact ⟨List.length_filter_le _ _, List.length_filter_le _ _⟩
def chI (c : Cfg) (t L : List LeaseR) (n : Int) (k : List UInt8) (want now : Int) (f : FuncId) (i : Nat) (S : PS) : Prop :=
 i ≤ L.length ∧ S.t 4 = .d (.int .i64 want) ∧ S.t 6 = .cptr (cells c.d) ∧ S.t 7 = .cptr [.slice (t.map LeaseR.d)] ∧ S.t 8 = .cptr [.int .i64 n] ∧ S.t 9 = .cptr [.str k] ∧ S.t 11 = .cptr [.int .i64 now] ∧
 S.t 14 = .fn f [.cptr (cells c.d), .cptr [.slice (t.map LeaseR.d)], .cptr [.int .i64 n], .cptr [.str k], .cptr [.int .i64 now]] ∧
 S.t 15 = .d (.slice ((hinA c n now (L.take i)).map intD)) ∧ S.own (.t 15 0) = true ∧ S.t 16 = .d (.slice ((oinA c n now (L.take i)).map intD)) ∧ S.own (.t 16 0) = true ∧
 S.t 40 = .d (.slice (L.map LeaseR.d)) ∧ S.t 41 = .d (.int .i64 L.length) ∧ S.t 42 = .d (.int .i64 i)
def cpI (l : List Sub) (q : Int → Bool) (F : PV) (i : Nat) (S : PS) : Prop :=
 i ≤ l.length ∧ ((l.take i).flatMap subA).all (fun y => !q y) = true ∧ S.t 14 = F ∧ S.t 24 = .d (.int .i64 0) ∧ S.t 25 = .d (.bool false) ∧ S.t 106 = .d (.slice (l.map Sub.d)) ∧ S.t 107 = .d (.int .i64 l.length) ∧ S.t 108 = .d (.int .i64 i)
def cpM (l : List Sub) (q : Int → Bool) (F : PV) (i : Nat) (x : Sub) (j : Nat) (S : PS) : Prop :=
 j ≤ x.pools.length ∧ ((x.pools.take j).flatMap poolA).all (fun y => !q y) = true ∧ S.t 14 = F ∧ S.t 24 = .d (.int .i64 0) ∧ S.t 25 = .d (.bool false) ∧ S.t 106 = .d (.slice (l.map Sub.d)) ∧ S.t 107 = .d (.int .i64 l.length) ∧ S.t 108 = .d (.int .i64 i) ∧
 S.t 113 = .d (.slice (x.pools.map Rng.d)) ∧ S.t 114 = .d (.int .i64 x.pools.length) ∧ S.t 115 = .d (.int .i64 j)
def cpN (l : List Sub) (q : Int → Bool) (F : PV) (i : Nat) (x : Sub) (j : Nat) (p : Rng) (fo g : Nat) (u : Nat) (S : PS) : Prop :=
 u ≤ (poolA p).length ∧ ((poolA p).take u).all (fun y => !q y) = true ∧ S.t 14 = F ∧ S.t 24 = .d (.int .i64 0) ∧ S.t 25 = .d (.bool false) ∧ S.t 106 = .d (.slice (l.map Sub.d)) ∧ S.t 107 = .d (.int .i64 l.length) ∧ S.t 108 = .d (.int .i64 i) ∧
 S.t 113 = .d (.slice (x.pools.map Rng.d)) ∧ S.t 114 = .d (.int .i64 x.pools.length) ∧ S.t 115 = .d (.int .i64 j) ∧ S.t 29 = .ptr (fo + 29) g 0 ∧ S.fo = fo ∧ S.gen (fo + 29) = g ∧ S.box (fo + 29) = (cells p.d).map .d ∧ S.t 30 = .d (.int .i64 (p.first + (u : Int)))
theorem poolA_len (p : Rng) : (poolA p).length = (p.last - p.first + 1).toNat := by simp [poolA]
theorem poolA_at {p : Rng} {u : Nat} (h : u < (poolA p).length) : (poolA p)[u] = p.first + (u : Int) := by simp [poolA]
set_option maxHeartbeats 8000000 in
theorem allocChoose (c : Cfg) (t : List LeaseR) (n : Int) (k : List UInt8) (want now : Int) (hc : sizedC c) (ht : TSz t) (hkk : k.length ≤ 9223372036854775807) :
  Holds Tryz.prog 96 [.d c.d, .d (.slice (t.map LeaseR.d)), .d (.int .i64 n), .d (.str k), .d (.int .i64 want), .d (.int .i64 now)] (.tup [.d (.int .i64 ((chooseS c t n k want now).getD 0)), .d (.bool (chooseS c t n k want now).isSome)]) (fun _ => false) := by
 refine Holds.by (by kernel_rfl) Tryz.func96 (by kernel_rfl) rfl [20006, 20007, 20008, 20009, 20011, 62, 46, 84, 89] (by simp) (by kernel_rfl) (by kernel_rfl) rfl ?_
 conv in ccs _ => cbv
 have q1 := allocFair c t n k hc ht.l ht.k hkk
 have q2 := tableOf t k ht.l ht.k
 have hm := fun a => chooseMay c t n k a now hc ht hkk
 unfold chooseS
 cases hf : fairN c t n k with
 | false =>
   rw [hf] at q1
   simp (config := sc) (disch := try exact dd) [std]
   refine oc q1 ?_
   simp (config := sc) (disch := try exact dd) [std]
 | true =>
 rw [hf] at q1
 rw [if_neg (by decide)]
 obtain ⟨h1, h2⟩ := @held_of c t n k now (fair_parts hf).2.1
 obtain ⟨hck, _, _, hn0, hn1⟩ := fair_parts hf
 obtain ⟨m, rfl⟩ := Int.eq_ofNat_of_zero_le hn0
 have hn1 : m < c.nets.length := by omega
 have hrng := fun j h2 p hp => @pool_rng c hck m j hn1 h2 p hp
 have hall : allA c (m : Int) = c.nets[m].subs.flatMap subA := by simp [allA, List.getElem?_eq_getElem hn1]
 have hsn := (hc.2 _ (List.getElem_mem hn1)).1
 have hss := (hc.2 _ (List.getElem_mem hn1)).2
 have hl1 := hc.1
 rw [h1, h2, hall]
 clear hall
 generalize hN : c.nets[m] = N at *
 obtain ⟨l⟩ := N
 dsimp only at hrng hsn hss ⊢
 generalize hR : chooseF (hinA c (m : Int) now (ofT t k)) (oinA c (m : Int) now (ofT t k)) (keptS c (m : Int) k) want (l.flatMap subA) (mayS c t (m : Int) k now) = R
 have q4 := confKeptFor c m k hc
 have hlen : (ofT t k).length ≤ 64 := by
  have h1 := (tab_iff.1 (goodT_tab t)).1
  have h2 := List.length_filter_le (ofP k) (goodT t)
  unfold ofT
  omega
 clear h1 h2
 generalize ofT t k = L at *
 have q3 := allocFirst (hinA c m now L) (by have := (@hin_len c m now L).1; omega) _ _ _ _ _ _ (mayS c t m k now) hm
 simp (config := sc) (disch := try exact dd) [std]
 refine oc q1 ?_
 simp (config := sc) (disch := try exact dd) [std]
 refine oc q2 ?_
 simp (config := sc) (disch := try exact dd) [std]
 refine lp (chI c t L m k want now 141) (fun i => L.length - i) 0 ⟨by omega, by simp, by simp, by simp, by simp, by simp, by simp, by simp, by simp [hinA], by simp, by simp [oinA], by simp, by simp, by simp, by simp⟩ ?_
 rintro i S ⟨hi, e4, e6, e7, e8, e9, e11, e14, e15, o15, e16, o16, e40, e41, e42⟩
 by_cases hlt : i < L.length
 ·have k6 : (i : Int) < L.length := by omega
  have hn : nth L (i : Int) = L[i] := nth_nat hlt
  have hs1 := @hin_step c m now L i hlt
  have hs2 := @oin_step c m now L i hlt
  have hle := @hin_len c m now (L.take i)
  simp only [List.length_take] at hle
  have r1 := allocIn c m L[i].addr hc
  have r2 := tableHolds L[i] now
  have hd1 : hinP c m now L[i] = (inN c m L[i].addr && holdsL now L[i]) := rfl
  have hd2 : oinP c m now L[i] = (inN c m L[i].addr && !holdsL now L[i]) := rfl
  rw [hd1] at hs1
  rw [hd2] at hs2
  clear hd1 hd2
  generalize inN c m L[i].addr = ib at *
  generalize holdsL now L[i] = hb at *
  generalize hinA c m now (L.take i) = H1 at *
  generalize oinA c m now (L.take i) = O1 at *
  generalize L[i] = x at *
  cases ib with
  | false =>
    rw [if_neg (by simp), List.append_nil] at hs1 hs2
    simp (config := sc) (disch := try exact dd) [std, e4, e6, e7, e8, e9, e11, e14, e15, o15, e16, o16, e40, e41, e42, k6, hn]
    refine oc r1 ?_
    simp (config := sc) (disch := try exact dd) [std, e4, e6, e7, e8, e9, e11, e14, e15, o15, e16, o16, e40, e41, e42]
    exact nxt_of (i + 1) ⟨by omega, by simp (config := sc) (disch := try exact dd) [std, e4], by simp (config := sc) (disch := try exact dd) [std, e6], by simp (config := sc) (disch := try exact dd) [std, e7], by simp (config := sc) (disch := try exact dd) [std, e8], by simp (config := sc) (disch := try exact dd) [std, e9], by simp (config := sc) (disch := try exact dd) [std, e11], by simp (config := sc) (disch := try exact dd) [std, e14], by rw [hs1]; simp (config := sc) (disch := try exact dd) [std, e15], by simp (config := sc) (disch := try exact dd) [std, o15], by rw [hs2]; simp (config := sc) (disch := try exact dd) [std, e16], by simp (config := sc) (disch := try exact dd) [std, o16], by simp (config := sc) (disch := try exact dd) [std, e40], by simp (config := sc) (disch := try exact dd) [std, e41], by simp (config := sc) (disch := try exact dd) [std]⟩ (by omega)
  | true =>
    cases hb with
    | true =>
      rw [if_pos (by rfl)] at hs1
      rw [if_neg (by simp), List.append_nil] at hs2
      simp (config := sc) (disch := try exact dd) [std, e4, e6, e7, e8, e9, e11, e14, e15, o15, e16, o16, e40, e41, e42, k6, hn]
      refine oc r1 ?_
      simp (config := sc) (disch := try exact dd) [std, e4, e6, e7, e8, e9, e11, e14, e15, o15, e16, o16, e40, e41, e42]
      refine oc r2 ?_
      simp (config := sc) (disch := try exact dd) [std, e4, e6, e7, e8, e9, e11, e14, e15, o15, e16, o16, e40, e41, e42]
      exact nxt_of (i + 1) ⟨by omega, by simp (config := sc) (disch := try exact dd) [std, e4], by simp (config := sc) (disch := try exact dd) [std, e6], by simp (config := sc) (disch := try exact dd) [std, e7], by simp (config := sc) (disch := try exact dd) [std, e8], by simp (config := sc) (disch := try exact dd) [std, e9], by simp (config := sc) (disch := try exact dd) [std, e11], by simp (config := sc) (disch := try exact dd) [std, e14], by rw [hs1]; simp (config := sc) (disch := try exact dd) [std, e15, intD], by simp (config := sc) (disch := try exact dd) [std, o15], by rw [hs2]; simp (config := sc) (disch := try exact dd) [std, e16], by simp (config := sc) (disch := try exact dd) [std, o16], by simp (config := sc) (disch := try exact dd) [std, e40], by simp (config := sc) (disch := try exact dd) [std, e41], by simp (config := sc) (disch := try exact dd) [std]⟩ (by omega)
    | false =>
      rw [if_neg (by simp), List.append_nil] at hs1
      rw [if_pos (by rfl)] at hs2
      simp (config := sc) (disch := try exact dd) [std, e4, e6, e7, e8, e9, e11, e14, e15, o15, e16, o16, e40, e41, e42, k6, hn]
      refine oc r1 ?_
      simp (config := sc) (disch := try exact dd) [std, e4, e6, e7, e8, e9, e11, e14, e15, o15, e16, o16, e40, e41, e42]
      refine oc r2 ?_
      simp (config := sc) (disch := try exact dd) [std, e4, e6, e7, e8, e9, e11, e14, e15, o15, e16, o16, e40, e41, e42]
      exact nxt_of (i + 1) ⟨by omega, by simp (config := sc) (disch := try exact dd) [std, e4], by simp (config := sc) (disch := try exact dd) [std, e6], by simp (config := sc) (disch := try exact dd) [std, e7], by simp (config := sc) (disch := try exact dd) [std, e8], by simp (config := sc) (disch := try exact dd) [std, e9], by simp (config := sc) (disch := try exact dd) [std, e11], by simp (config := sc) (disch := try exact dd) [std, e14], by rw [hs1]; simp (config := sc) (disch := try exact dd) [std, e15], by simp (config := sc) (disch := try exact dd) [std, o15], by rw [hs2]; simp (config := sc) (disch := try exact dd) [std, e16, intD], by simp (config := sc) (disch := try exact dd) [std, o16], by simp (config := sc) (disch := try exact dd) [std, e40], by simp (config := sc) (disch := try exact dd) [std, e41], by simp (config := sc) (disch := try exact dd) [std]⟩ (by omega)
 ·have k6 : ¬ (i : Int) < L.length := by omega
  rw [List.take_of_length_le (by omega)] at e15 e16
  have hle := @hin_len c m now L
  have q5 := fun K hK => allocFirst K hK _ _ _ _ _ _ (mayS c t m k now) hm
  generalize hinA c m now L = H at *
  generalize oinA c m now L = O at *
  by_cases hh0 : H = []
  ·subst hh0
   unfold chooseF at hR
   rw [if_neg (by simp)] at hR
   have hz0 : ¬ (0 : Int) < ([] : List Int).length := by simp
   have q6 := q5 ((keptS c m k).toList ++ O ++ [want]) (by
    have : (keptS c m k).toList.length ≤ 1 := by cases keptS c m k <;> simp
    simp only [List.length_append, List.length_cons, List.length_nil]
    omega)
   cases hfi : ((keptS c m k).toList ++ O ++ [want]).find? (mayS c t m k now) with
   | some y =>
     rw [hfi] at q6 hR
     simp only [Option.some_or] at hR
     subst hR
     clear hfi
     rcases hkp : keptS c m k with _ | b <;> rw [hkp] at q4 q6 <;> (
     simp (config := sc) (disch := try exact dd) [std, e4, e6, e7, e8, e9, e11, e14, e15, o15, e16, o16, e40, e41, e42, k6]
     refine oc q4 ?_
     simp (config := sc) (disch := try exact dd) [std, e4, e6, e7, e8, e9, e11, e14, e15, o15, e16, o16, e40, e41, e42]
     refine oc (by simpa [intD] using q6) ?_
     simp (config := sc) (disch := try exact dd) [std])
   | none =>
     rw [hfi] at q6 hR
     simp only [Option.none_or] at hR
     clear hfi
     rcases hkp : keptS c m k with _ | b <;> rw [hkp] at q4 q6 <;> (
     simp (config := sc) (disch := try exact dd) [std, e4, e6, e7, e8, e9, e11, e14, e15, o15, e16, o16, e40, e41, e42, k6]
     refine oc q4 ?_
     simp (config := sc) (disch := try exact dd) [std, e4, e6, e7, e8, e9, e11, e14, e15, o15, e16, o16, e40, e41, e42]
     refine oc (by simpa [intD] using q6) ?_
     simp (config := sc) (disch := try exact dd) [std, e6, e8, e14, hn1, hN])
     all_goals
      clear e4 e6 e7 e8 e9 e11 e15 o15 e16 o16 e40 e41 e42
      generalize hq : mayS c t (m : Int) k now = q at *
      refine lp (cpI l q (.fn 141 [.cptr (cells c.d), .cptr [.slice (t.map LeaseR.d)], .cptr [.int .i64 (m : Int)], .cptr [.str k], .cptr [.int .i64 now]])) (fun i => l.length - i) 0 ⟨by omega, by simp, by simp (config := sc) (disch := try exact dd) [std, e14], by simp (config := sc) (disch := try exact dd) [std], by simp (config := sc) (disch := try exact dd) [std], by simp (config := sc) (disch := try exact dd) [std], by simp (config := sc) (disch := try exact dd) [std], by simp (config := sc) (disch := try exact dd) [std]⟩ ?_
      clear e14
      rintro i S2 ⟨hi2, ha, e14, e24, e25, e106, e107, e108⟩
      by_cases hlt2 : i < l.length
      ·have k6 : (i : Int) < l.length := by omega
       obtain ⟨hx1, _⟩ := hss _ (List.getElem_mem hlt2)
       have hx2 := hrng i hlt2
       have hsm := fun y h => ff_some (f := subA) (p := q) (i := i) (y := y) hlt2 ha h
       have hst := fun h => ff_step (f := subA) (q := fun y => !q y) hlt2 ha h
       generalize hx : l[i] = x at *
       simp (config := sc) (disch := try exact dd) [std, e14, e24, e25, e106, e107, e108, k6, hx]
       refine lp (cpM l q (.fn 141 [.cptr (cells c.d), .cptr [.slice (t.map LeaseR.d)], .cptr [.int .i64 (m : Int)], .cptr [.str k], .cptr [.int .i64 now]]) i x) (fun j => x.pools.length - j) 0 ⟨by omega, by simp, by simp (config := sc) (disch := try exact dd) [std, e14], by simp (config := sc) (disch := try exact dd) [std, e24], by simp (config := sc) (disch := try exact dd) [std, e25], by simp (config := sc) (disch := try exact dd) [std, e106], by simp (config := sc) (disch := try exact dd) [std, e107], by simp (config := sc) (disch := try exact dd) [std, e108], by simp (config := sc) (disch := try exact dd) [std], by simp (config := sc) (disch := try exact dd) [std], by simp (config := sc) (disch := try exact dd) [std]⟩ ?_
       clear e14 e24 e25 e106 e107 e108
       rintro j S3 ⟨hj, hb, e14, e24, e25, e106, e107, e108, e113, e114, e115⟩
       by_cases hjl : j < x.pools.length
       ·have k7 : (j : Int) < x.pools.length := by omega
        have hy2 := hx2 _ (List.getElem_mem hjl)
        have hsm2 := fun y h => ff_some (f := poolA) (p := q) (i := j) (y := y) hjl hb h
        have hst2 := fun h => ff_step (f := poolA) (q := fun y => !q y) hjl hb h
        generalize hp : x.pools[j] = p at *
        simp (config := sc) (disch := try exact dd) [std, e14, e24, e25, e106, e107, e108, e113, e114, e115, k7, hp]
        refine lp (cpN l q (.fn 141 [.cptr (cells c.d), .cptr [.slice (t.map LeaseR.d)], .cptr [.int .i64 (m : Int)], .cptr [.str k], .cptr [.int .i64 now]]) i x j p S3.fo (S3.gen (S3.fo + 29) + 1)) (fun u => (poolA p).length - u) 0 ⟨by omega, by simp, by simp (config := sc) (disch := try exact dd) [std, e14], by simp (config := sc) (disch := try exact dd) [std, e24], by simp (config := sc) (disch := try exact dd) [std, e25], by simp (config := sc) (disch := try exact dd) [std, e106], by simp (config := sc) (disch := try exact dd) [std, e107], by simp (config := sc) (disch := try exact dd) [std, e108], by simp (config := sc) (disch := try exact dd) [std, e113], by simp (config := sc) (disch := try exact dd) [std, e114], by simp (config := sc) (disch := try exact dd) [std, e115], by simp (config := sc) (disch := try exact dd) [std], by simp (config := sc) (disch := try exact dd) [std], by simp (config := sc) (disch := try exact dd) [std], by simp (config := sc) (disch := try exact dd) [std], by simp (config := sc) (disch := try exact dd) [std]⟩ ?_
        clear e14 e24 e25 e106 e107 e108 e113 e114 e115
        rintro u S4 ⟨hu, hd, e14, e24, e25, e106, e107, e108, e113, e114, e115, e29, efo, eg, eb, e30⟩
        simp only [Rng.d_eq, cells_agg, List.map_cons, List.map_nil] at eb
        have hpl := poolA_len p
        by_cases hul : u < (poolA p).length
        ·have k8 : p.first + (u : Int) ≤ p.last := by omega
         have hpa := poolA_at hul
         have hq1 := hm (p.first + (u : Int))
         have hht := fun h => fnd_hit (p := q) hul hd h
         have hst3 := allc_step (p := fun y => !q y) hul hd
         rw [hpa] at hht hst3
         cases hqq : q (p.first + (u : Int)) with
         | true =>
           rw [hqq] at hq1
           have hR2 := hsm _ (hsm2 _ (hht hqq))
           rw [hR] at hR2
           subst hR2
           simp (config := sc) (disch := try exact dd) [std, e14, e24, e25, e106, e107, e108, e113, e114, e115, e29, efo, eg, eb, e30, k8]
           refine oc hq1 ?_
           simp (config := sc) (disch := try exact dd) [std, e14, e24, e25, e106, e107, e108, e113, e114, e115, e29, efo, eg, eb, e30]
         | false =>
           rw [hqq] at hq1
           have hs3 := hst3 (by simp [hqq])
           simp (config := sc) (disch := try exact dd) [std, e14, e24, e25, e106, e107, e108, e113, e114, e115, e29, efo, eg, eb, e30, k8]
           refine oc hq1 ?_
           simp (config := sc) (disch := try exact dd) [std, e14, e24, e25, e106, e107, e108, e113, e114, e115, e29, efo, eg, eb, e30]
           exact nxt_of (u + 1) ⟨by omega, hs3, by simp (config := sc) (disch := try exact dd) [std, e14], by simp (config := sc) (disch := try exact dd) [std, e24], by simp (config := sc) (disch := try exact dd) [std, e25], by simp (config := sc) (disch := try exact dd) [std, e106], by simp (config := sc) (disch := try exact dd) [std, e107], by simp (config := sc) (disch := try exact dd) [std, e108], by simp (config := sc) (disch := try exact dd) [std, e113], by simp (config := sc) (disch := try exact dd) [std, e114], by simp (config := sc) (disch := try exact dd) [std, e115], by simp (config := sc) (disch := try exact dd) [std, e29], by simp (config := sc) (disch := try exact dd) [std, efo], by simp (config := sc) (disch := try exact dd) [std, eg], by simp (config := sc) (disch := try exact dd) [std, eb], by simp (config := sc) (disch := try exact dd) [std]; omega⟩ (by omega)
        ·have k8 : ¬ p.first + (u : Int) ≤ p.last := by omega
         have hs2 := hst2 (allc_end hul hd)
         simp (config := sc) (disch := try exact dd) [std, e14, e24, e25, e106, e107, e108, e113, e114, e115, e29, efo, eg, eb, e30, k8]
         exact nxt_of (j + 1) ⟨by omega, hs2, by simp (config := sc) (disch := try exact dd) [std, e14], by simp (config := sc) (disch := try exact dd) [std, e24], by simp (config := sc) (disch := try exact dd) [std, e25], by simp (config := sc) (disch := try exact dd) [std, e106], by simp (config := sc) (disch := try exact dd) [std, e107], by simp (config := sc) (disch := try exact dd) [std, e108], by simp (config := sc) (disch := try exact dd) [std, e113], by simp (config := sc) (disch := try exact dd) [std, e114], by simp (config := sc) (disch := try exact dd) [std]⟩ (by omega)
       ·have k7 : ¬ (j : Int) < x.pools.length := by omega
        have hs1 := hst (allc_end (l := x.pools.flatMap poolA) (i := (x.pools.flatMap poolA).length) (by omega) (by rw [List.take_of_length_le (Nat.le_refl _)]; rwa [List.take_of_length_le (by omega)] at hb))
        simp (config := sc) (disch := try exact dd) [std, e14, e24, e25, e106, e107, e108, e113, e114, e115, k7]
        exact nxt_of (i + 1) ⟨by omega, hs1, by simp (config := sc) (disch := try exact dd) [std, e14], by simp (config := sc) (disch := try exact dd) [std, e24], by simp (config := sc) (disch := try exact dd) [std, e25], by simp (config := sc) (disch := try exact dd) [std, e106], by simp (config := sc) (disch := try exact dd) [std, e107], by simp (config := sc) (disch := try exact dd) [std]⟩ (by omega)
      ·have k6 : ¬ (i : Int) < l.length := by omega
       rw [List.take_of_length_le (by omega)] at ha
       have hR2 := fnd_out (p := q) ha
       rw [hR] at hR2
       subst hR2
       simp (config := sc) (disch := try exact dd) [std, e14, e24, e25, e106, e107, e108, k6]
  ·unfold chooseF at hR
   rw [if_pos hh0] at hR
   subst hR
   have hpos : 0 < H.length := List.length_pos_iff.2 hh0
   have hpos' : (0 : Int) < H.length := by omega
   simp (config := sc) (disch := try exact dd) [std, e4, e6, e7, e8, e9, e11, e14, e15, o15, e16, o16, e40, e41, e42, k6, hpos']
   refine oc q3 ?_
   simp (config := sc) (disch := try exact dd) [std]
end Go.Proofs.YtnkmlhlegndlhaaGreat
