/- Configurations: what the program's conf answers. -/
import Derived.Test.YtimlalndjfmnbaaDoorMsgR
import Derived.Test.YtimlalndjfmnbaaDoorKey
namespace Go.Proofs.YtimlalndjfmnbaaDoor
open BoEng Go
set_option maxRecDepth 100000
attribute [-simp] List.map_take List.map_drop List.length_flatMap
set_option linter.unusedSimpArgs false
set_option linter.unusedVariables false

structure Rng where
  first : Int
  last : Int
  deriving Inhabited, DecidableEq
def Rng.d (p : Rng) : DV := .agg [.int .i64 p.first, .int .i64 p.last]
@[simp] theorem Rng.d_eq (p : Rng) : p.d = .agg [.int .i64 p.first, .int .i64 p.last] := rfl
structure Res where
  key : List UInt8
  addr : Int
  deriving Inhabited, DecidableEq
def Res.d (r : Res) : DV := .agg [.str r.key, .int .i64 r.addr]
@[simp] theorem Res.d_eq (r : Res) : r.d = .agg [.str r.key, .int .i64 r.addr] := rfl
structure Sub where
  base : Int
  bits : Int
  pools : List Rng
  res : List Res
  iface : Int
  router : Int
  time : Int
  deriving Inhabited, DecidableEq
def Sub.d (s : Sub) : DV := .agg [.int .i64 s.base, .int .i64 s.bits, .slice (s.pools.map Rng.d), .slice (s.res.map Res.d), .int .i64 s.iface, .int .i64 s.router, .int .i64 s.time]
@[simp] theorem Sub.d_eq (s : Sub) : s.d = .agg [.int .i64 s.base, .int .i64 s.bits, .slice (s.pools.map Rng.d), .slice (s.res.map Res.d), .int .i64 s.iface, .int .i64 s.router, .int .i64 s.time] := rfl
structure Net where
  subs : List Sub
  deriving Inhabited, DecidableEq
def Net.d (n : Net) : DV := .agg [.slice (n.subs.map Sub.d)]
@[simp] theorem Net.d_eq (n : Net) : n.d = .agg [.slice (n.subs.map Sub.d)] := rfl
structure Cfg where
  server : Int
  probation : Int
  nets : List Net
  deriving Inhabited, DecidableEq
def Cfg.d (c : Cfg) : DV := .agg [.int .i64 c.server, .int .i64 c.probation, .slice (c.nets.map Net.d)]
@[simp] theorem Cfg.d_eq (c : Cfg) : c.d = .agg [.int .i64 c.server, .int .i64 c.probation, .slice (c.nets.map Net.d)] := rfl
structure Spot where
  net : Nat
  sub : Nat
  s : Sub
  deriving Inhabited, DecidableEq
def Spot.d (x : Spot) : DV := .agg [.int .i64 x.net, .int .i64 x.sub, .int .i64 x.s.base, .int .i64 x.s.bits, .slice (x.s.pools.map Rng.d), .slice (x.s.res.map Res.d), .int .i64 x.s.iface, .int .i64 x.s.router, .int .i64 x.s.time]
@[simp] theorem Spot.d_eq (x : Spot) : x.d = .agg [.int .i64 x.net, .int .i64 x.sub, .int .i64 x.s.base, .int .i64 x.s.bits, .slice (x.s.pools.map Rng.d), .slice (x.s.res.map Res.d), .int .i64 x.s.iface, .int .i64 x.s.router, .int .i64 x.s.time] := rfl

def sizedS (s : Sub) : Prop := s.pools.length ≤ 1000 ∧ s.res.length ≤ 1000 ∧ ∀ r ∈ s.res, r.key.length ≤ 100000
def sizedC (c : Cfg) : Prop := c.nets.length ≤ 1000 ∧ ∀ n ∈ c.nets, n.subs.length ≤ 1000 ∧ ∀ s ∈ n.subs, sizedS s

/-! ### lists gone through -/
theorem allc_step {α : Type} {p : α → Bool} {l : List α} {i : Nat} (h : i < l.length) (ha : (l.take i).all p = true) (hp : p l[i] = true) : (l.take (i + 1)).all p = true := by
  rw [List.take_succ_eq_append_getElem h, List.all_append, ha]
  simp [hp]
theorem allc_bad {α : Type} {p : α → Bool} {l : List α} {i : Nat} (h : i < l.length) (hp : p l[i] = false) : l.all p = false := by
  rw [List.all_eq_false]
  exact ⟨_, List.getElem_mem h, by simp [hp]⟩
theorem allc_end {α : Type} {p : α → Bool} {l : List α} {i : Nat} (h : ¬ i < l.length) (ha : (l.take i).all p = true) : l.all p = true := by
  rwa [List.take_of_length_le (by omega)] at ha

/-! ### what is told -/
def rngOk (p : Rng) : Bool := decide (p.first ≤ p.last)
def resKey (r : Res) : Bool := keyR r.key
def netOk (n : Net) : Bool := decide (1 ≤ n.subs.length ∧ n.subs.length ≤ 4)
def fairS (s : Sub) : Bool :=
  fairA s.base s.bits && decide (8 ≤ s.bits ∧ s.bits ≤ 30) && decide (s.pools.length ≤ 4) && decide (s.res.length ≤ 8) && decide (0 ≤ s.iface ∧ s.iface ≤ 99) && decide (1 ≤ s.time ∧ s.time ≤ 2147483648) &&
    s.pools.all rngOk && s.res.all resKey
def subsF (k : Nat) : Nat → List Sub → List Spot
  | _, [] => []
  | i, s :: l => ⟨k, i, s⟩ :: subsF k (i + 1) l
def spotsF : Nat → List Net → List Spot
  | _, [] => []
  | k, n :: l => subsF k 0 n.subs ++ spotsF (k + 1) l
/-- All subnets, with their places. -/
def spotsS (c : Cfg) : List Spot := spotsF 0 c.nets
def fairX (x : Spot) : Bool := fairS x.s
def formS (c : Cfg) : Bool := rightA c.server && decide (1 ≤ c.probation ∧ c.probation ≤ 2147483648) && decide (c.nets.length ≤ 4) && c.nets.all netOk && (spotsS c).all fairX
def insideS (s : Sub) (a : Int) : Bool := decide (s.base < a ∧ a < lastA s.base s.bits)
def inR (p : Rng) (a : Int) : Bool := decide (p.first ≤ a ∧ a ≤ p.last)
def poolOk (server : Int) (s : Sub) (p : Rng) : Bool := insideS s p.first && insideS s p.last && !inR p server
def resOkS (server : Int) (s : Sub) (r : Res) : Bool := insideS s r.addr && !decide (r.addr = server)
def routeOk (s : Sub) : Bool := decide (s.router = 0) || hasA s.base s.bits s.router
def placedX (server : Int) (s : Sub) : Bool := s.pools.all (poolOk server s) && s.res.all (resOkS server s) && routeOk s

def plX (c : Cfg) (x : Spot) : Bool := placedX c.server x.s
def placedS (c : Cfg) : Bool := (spotsS c).all (plX c)
def poolPair (same : Bool) (a b : Rng × Nat) : Bool := !(same && !decide (a.2 = b.2) && (inR a.1 b.1.first || inR b.1 a.1.first))
def poolRow (same : Bool) (ys : List Rng) (a : Rng × Nat) : Bool := ys.zipIdx.all (poolPair same a)
def resPair (one same : Bool) (a b : Res × Nat) : Bool := !((!same || !decide (a.2 = b.2)) && (decide (a.1.addr = b.1.addr) || one && decide (a.1.key = b.1.key)))
def resRow (one same : Bool) (ys : List Res) (a : Res × Nat) : Bool := ys.zipIdx.all (resPair one same a)
def apartS (x y : Spot) : Bool := !(meetA x.s.base x.s.bits y.s.base y.s.bits || !decide (x.net = y.net) && decide (x.s.iface = y.s.iface) && decide (0 < x.s.iface))
def onceS (x y : Spot) (same : Bool) : Bool := (same || apartS x y) && x.s.pools.zipIdx.all (poolRow same y.s.pools) && x.s.res.zipIdx.all (resRow (decide (x.net = y.net)) same y.s.res)
def likePair (a b : Spot × Nat) : Bool := onceS a.1 b.1 (decide (a.2 = b.2))
def likeRow (l : List Spot) (a : Spot × Nat) : Bool := l.zipIdx.all (likePair a)
def unlikeS (c : Cfg) : Bool := (spotsS c).zipIdx.all (likeRow (spotsS c))
/-- What is wrong with a configuration. -/
def checkS (c : Cfg) : Int := if formS c = true then (if placedS c = true then (if unlikeS c = true then 0 else 8) else 9) else 1
def rightC (c : Cfg) : List Spot := if checkS c = 0 then spotsS c else []
def findC (c : Cfg) (a : Int) : Option Spot := (rightC c).find? fun x => hasA x.s.base x.s.bits a
def wireC (c : Cfg) (i : Int) : Option Spot := (rightC c).find? fun x => decide (x.s.iface = i) && decide (0 < i)

theorem subsF_len : ∀ (k i : Nat) (l : List Sub), (subsF k i l).length = l.length
  | _, _, [] => rfl
  | k, i, s :: l => by simp [subsF, subsF_len k (i + 1) l]
theorem subsF_mem : ∀ (k i : Nat) (l : List Sub) (x : Spot), x ∈ subsF k i l → x.s ∈ l
  | _, _, [], _, h => by simp [subsF] at h
  | k, i, s :: l, x, h => by
    simp only [subsF, List.mem_cons] at h ⊢
    rcases h with rfl | h
    · exact .inl rfl
    · exact .inr (subsF_mem k (i + 1) l x h)
theorem spotsF_mem : ∀ (k : Nat) (l : List Net) (x : Spot), x ∈ spotsF k l → ∃ n ∈ l, x.s ∈ n.subs
  | _, [], _, h => by simp [spotsF] at h
  | k, n :: l, x, h => by
    simp only [spotsF, List.mem_append] at h
    rcases h with h | h
    · exact ⟨n, List.mem_cons_self, subsF_mem _ _ _ _ h⟩
    · obtain ⟨m, hm, hx⟩ := spotsF_mem (k + 1) l x h
      exact ⟨m, List.mem_cons_of_mem _ hm, hx⟩
theorem spotsF_len : ∀ (k : Nat) (l : List Net), (∀ n ∈ l, n.subs.length ≤ 1000) → (spotsF k l).length ≤ l.length * 1000
  | _, [], _ => by simp [spotsF]
  | k, n :: l, h => by
    have h1 := h n List.mem_cons_self
    have h2 := spotsF_len (k + 1) l fun m hm => h m (List.mem_cons_of_mem _ hm)
    simp only [spotsF, List.length_append, subsF_len, List.length_cons]
    omega
theorem spots_len {c : Cfg} (hc : sizedC c) : (spotsS c).length ≤ 1000000 := by
  have := spotsF_len 0 c.nets fun n hn => (hc.2 n hn).1
  have := hc.1
  unfold spotsS
  omega
theorem spots_sized {c : Cfg} (hc : sizedC c) {i : Nat} (hi : i < (spotsS c).length) : sizedS (spotsS c)[i].s := by
  obtain ⟨n, hn, hx⟩ := spotsF_mem _ _ _ (List.getElem_mem hi)
  exact (hc.2 n hn).2 _ hx

theorem confWithin (n a b : Int) : Holds Tryd.prog 88 [.d (.int .i64 n), .d (.int .i64 a), .d (.int .i64 b)] (.d (.bool (decide (a ≤ n ∧ n ≤ b)))) (fun _ => false) := by
  refine Holds.by (by kernel_rfl) Tryd.func88 (by kernel_rfl) rfl [] (by simp) (by kernel_rfl) (by kernel_rfl) rfl ?_
  conv in ccs _ => cbv
  repeat' (first | (simp (config := sc) (disch := try exact dd) [*, std]) | (refine sel_by ?_ ?_ <;> intro hc <;> have hc2 := hc <;> (try simp only [decide_eq_true_eq, decide_eq_false_iff_not, Bool.and_eq_true, Bool.or_eq_true, Bool.not_eq_true', Bool.not_eq_false', Bool.or_eq_false_iff, Bool.and_eq_false_iff] at hc2) <;> try omega) | (refine cnd_by ?_ ?_ <;> intro hc <;> have hc2 := hc <;> (try simp only [decide_eq_true_eq, decide_eq_false_iff_not, Bool.and_eq_true, Bool.or_eq_true, Bool.not_eq_true', Bool.not_eq_false', Bool.or_eq_false_iff, Bool.and_eq_false_iff] at hc2) <;> try omega) | (refine onSt_if (by omega) ?_) | (split <;> try omega) | omega)

def spI (c : Cfg) (i : Nat) (S : PS) : Prop :=
  i ≤ c.nets.length ∧ (∃ out, spotsS c = out ++ spotsF i (c.nets.drop i) ∧ S.t 3 = .d (.slice (out.map Spot.d)) ∧ S.own (.t 3 0) = true) ∧ S.t 9 = .d (.slice (c.nets.map Net.d)) ∧ S.t 10 = .d (.int .i64 c.nets.length) ∧ S.t 11 = .d (.int .i64 i)
def spJ (c : Cfg) (i : Nat) (l : List Sub) (j : Nat) (S : PS) : Prop :=
  j ≤ l.length ∧ (∃ out, spotsS c = out ++ subsF i j (l.drop j) ++ spotsF (i + 1) (c.nets.drop (i + 1)) ∧ S.t 3 = .d (.slice (out.map Spot.d)) ∧ S.own (.t 3 0) = true) ∧ S.t 9 = .d (.slice (c.nets.map Net.d)) ∧ S.t 10 = .d (.int .i64 c.nets.length) ∧ S.t 11 = .d (.int .i64 i) ∧
    S.t 4 = .d (.int .i64 i) ∧ S.t 17 = .d (.slice (l.map Sub.d)) ∧ S.t 18 = .d (.int .i64 l.length) ∧ S.t 19 = .d (.int .i64 j)
theorem confSpots (c : Cfg) (hc : sizedC c) : Holds Tryd.prog 89 [.d c.d] (.d (.slice ((spotsS c).map Spot.d))) (fun _ => false) := by
  refine Holds.by (by kernel_rfl) Tryd.func89 (by kernel_rfl) rfl [20001, 24] (by simp) (by kernel_rfl) (by kernel_rfl) rfl ?_
  conv in ccs _ => cbv
  have hl := hc.1
  have hsl := spots_len hc
  simp (config := sc) (disch := try exact dd) [std]
  refine lp (spI c) (fun i => c.nets.length - i) 0 ⟨by omega, ⟨[], by simp [spotsS], by simp, by simp⟩, by simp⟩ ?_
  rintro i S ⟨hi, ⟨out, ho, e3, o3⟩, e9, e10, e11⟩
  by_cases hlt : i < c.nets.length
  · have k6 : (i : Int) < c.nets.length := by omega
    have hns := (hc.2 _ (List.getElem_mem hlt)).1
    have hd : c.nets.drop i = c.nets[i] :: c.nets.drop (i + 1) := List.drop_eq_getElem_cons hlt
    rw [hd, spotsF, ← List.append_assoc] at ho
    simp (config := sc) (disch := try exact dd) [std, e3, o3, e9, e10, e11, k6]
    refine lp (spJ c i c.nets[i].subs) (fun j => c.nets[i].subs.length - j) 0 ⟨by omega, ⟨out, by simpa using ho, by simp (config := sc) (disch := try exact dd) [std, e3], by simp (config := sc) (disch := try exact dd) [std, o3]⟩, by simp (config := sc) (disch := try exact dd) [std, e9, e10, e11]⟩ ?_
    rintro j S ⟨hj, ⟨out, ho, e3, o3⟩, e9, e10, e11, e4, e17, e18, e19⟩
    by_cases hjlt : j < c.nets[i].subs.length
    · have k7 : (j : Int) < c.nets[i].subs.length := by omega
      have hd : c.nets[i].subs.drop j = c.nets[i].subs[j] :: c.nets[i].subs.drop (j + 1) := List.drop_eq_getElem_cons hjlt
      rw [hd, subsF] at ho
      have hol : out.length ≤ 1000000 := by
        have := congrArg List.length ho
        simp only [List.length_append] at this
        omega
      simp (config := sc) (disch := try exact dd) [std, e3, o3, e9, e10, e11, e4, e17, e18, e19, k7]
      exact nxt_of (j + 1) ⟨by omega, ⟨out ++ [⟨i, j, c.nets[i].subs[j]⟩], by simpa using ho, by simp (config := sc) (disch := try exact dd) [std, e3], by simp (config := sc) (disch := try exact dd) [std, o3]⟩, by simp (config := sc) (disch := try exact dd) [std, e9, e10, e11, e4, e17, e18, e19]⟩ (by omega)
    · have k7 : ¬ (j : Int) < c.nets[i].subs.length := by omega
      have hd : c.nets[i].subs.drop j = [] := by simp; omega
      rw [hd, subsF, List.append_nil] at ho
      simp (config := sc) (disch := try exact dd) [std, e3, o3, e9, e10, e11, e4, e17, e18, e19, k7]
      exact nxt_of (i + 1) ⟨by omega, ⟨out, ho, by simp (config := sc) (disch := try exact dd) [std, e3], by simp (config := sc) (disch := try exact dd) [std, o3]⟩, by simp (config := sc) (disch := try exact dd) [std, e9, e10, e11, e4, e17, e18, e19]⟩ (by omega)
  · have k6 : ¬ (i : Int) < c.nets.length := by omega
    have hd : c.nets.drop i = [] := by simp; omega
    rw [hd, spotsF, List.append_nil] at ho
    simp (config := sc) (disch := try exact dd) [std, e3, o3, e9, e10, e11, k6, ho]

def fpI (s : Sub) (i : Nat) (S : PS) : Prop :=
  i ≤ s.pools.length ∧ (s.pools.take i).all rngOk = true ∧ S.t 1 = .cptr (cells s.d) ∧ S.t 44 = .d (.slice (s.pools.map Rng.d)) ∧ S.t 45 = .d (.int .i64 s.pools.length) ∧ S.t 46 = .d (.int .i64 i)
def frI (s : Sub) (i : Nat) (S : PS) : Prop :=
  i ≤ s.res.length ∧ (s.res.take i).all resKey = true ∧ S.t 57 = .d (.slice (s.res.map Res.d)) ∧ S.t 58 = .d (.int .i64 s.res.length) ∧ S.t 59 = .d (.int .i64 i)
theorem confFair (s : Sub) (hs : sizedS s) : Holds Tryd.prog 90 [.d s.d] (.d (.bool (fairS s))) (fun _ => false) := by
  refine Holds.by (by kernel_rfl) Tryd.func90 (by kernel_rfl) rfl [20001] (by simp) (by kernel_rfl) (by kernel_rfl) rfl ?_
  conv in ccs _ => cbv
  obtain ⟨hp, hr, hk⟩ := hs
  have q1 := confWithin s.bits 8 30
  have q2 := confWithin s.iface 0 99
  have q3 := confWithin s.time 1 2147483648
  have hd : fairS s = (fairA s.base s.bits && decide (8 ≤ s.bits ∧ s.bits ≤ 30) && decide (s.pools.length ≤ 4) && decide (s.res.length ≤ 8) && decide (0 ≤ s.iface ∧ s.iface ≤ 99) && decide (1 ≤ s.time ∧ s.time ≤ 2147483648) &&
    s.pools.all rngOk && s.res.all resKey) := rfl
  generalize decide (8 ≤ s.bits ∧ s.bits ≤ 30) = b1 at q1 hd
  generalize decide (0 ≤ s.iface ∧ s.iface ≤ 99) = b2 at q2 hd
  generalize decide (1 ≤ s.time ∧ s.time ≤ 2147483648) = b3 at q3 hd
  have w1 : (decide (s.pools.length ≤ 4)) = !decide ((4 : Int) < s.pools.length) := by rw [Bool.eq_iff_iff]; simp; omega
  have w2 : (decide (s.res.length ≤ 8)) = !decide ((8 : Int) < s.res.length) := by rw [Bool.eq_iff_iff]; simp; omega
  rw [w1, w2] at hd
  cases h0 : fairA s.base s.bits with
  | false =>
    rw [hd]
    repeat' (first | (simp (config := sc) (disch := try exact dd) [*, std]) | (refine oc (addrFair _ _) ?_) | (refine sel_by ?_ ?_ <;> intro hc <;> have hc2 := hc <;> (try simp only [decide_eq_true_eq, decide_eq_false_iff_not, Bool.and_eq_true, Bool.or_eq_true, Bool.not_eq_true', Bool.not_eq_false', Bool.or_eq_false_iff, Bool.and_eq_false_iff] at hc2) <;> try omega) | (refine cnd_by ?_ ?_ <;> intro hc <;> have hc2 := hc <;> (try simp only [decide_eq_true_eq, decide_eq_false_iff_not, Bool.and_eq_true, Bool.or_eq_true, Bool.not_eq_true', Bool.not_eq_false', Bool.or_eq_false_iff, Bool.and_eq_false_iff] at hc2) <;> try omega) | (refine onSt_if (by omega) ?_) | (split <;> try omega) | omega)
  | true =>
    cases b1 with
    | false =>
      rw [hd]
      repeat' (first | (simp (config := sc) (disch := try exact dd) [*, std]) | (refine oc (addrFair _ _) ?_) | (refine oc (q1) ?_) | (refine sel_by ?_ ?_ <;> intro hc <;> have hc2 := hc <;> (try simp only [decide_eq_true_eq, decide_eq_false_iff_not, Bool.and_eq_true, Bool.or_eq_true, Bool.not_eq_true', Bool.not_eq_false', Bool.or_eq_false_iff, Bool.and_eq_false_iff] at hc2) <;> try omega) | (refine cnd_by ?_ ?_ <;> intro hc <;> have hc2 := hc <;> (try simp only [decide_eq_true_eq, decide_eq_false_iff_not, Bool.and_eq_true, Bool.or_eq_true, Bool.not_eq_true', Bool.not_eq_false', Bool.or_eq_false_iff, Bool.and_eq_false_iff] at hc2) <;> try omega) | (refine onSt_if (by omega) ?_) | (split <;> try omega) | omega)
    | true =>
      by_cases k1 : (4 : Int) < s.pools.length
      · rw [hd]
        repeat' (first | (simp (config := sc) (disch := try exact dd) [*, std]) | (refine oc (addrFair _ _) ?_) | (refine oc (q1) ?_) | (refine sel_by ?_ ?_ <;> intro hc <;> have hc2 := hc <;> (try simp only [decide_eq_true_eq, decide_eq_false_iff_not, Bool.and_eq_true, Bool.or_eq_true, Bool.not_eq_true', Bool.not_eq_false', Bool.or_eq_false_iff, Bool.and_eq_false_iff] at hc2) <;> try omega) | (refine cnd_by ?_ ?_ <;> intro hc <;> have hc2 := hc <;> (try simp only [decide_eq_true_eq, decide_eq_false_iff_not, Bool.and_eq_true, Bool.or_eq_true, Bool.not_eq_true', Bool.not_eq_false', Bool.or_eq_false_iff, Bool.and_eq_false_iff] at hc2) <;> try omega) | (refine onSt_if (by omega) ?_) | (split <;> try omega) | omega)
      · by_cases k2 : (8 : Int) < s.res.length
        · rw [hd]
          repeat' (first | (simp (config := sc) (disch := try exact dd) [*, std]) | (refine oc (addrFair _ _) ?_) | (refine oc (q1) ?_) | (refine sel_by ?_ ?_ <;> intro hc <;> have hc2 := hc <;> (try simp only [decide_eq_true_eq, decide_eq_false_iff_not, Bool.and_eq_true, Bool.or_eq_true, Bool.not_eq_true', Bool.not_eq_false', Bool.or_eq_false_iff, Bool.and_eq_false_iff] at hc2) <;> try omega) | (refine cnd_by ?_ ?_ <;> intro hc <;> have hc2 := hc <;> (try simp only [decide_eq_true_eq, decide_eq_false_iff_not, Bool.and_eq_true, Bool.or_eq_true, Bool.not_eq_true', Bool.not_eq_false', Bool.or_eq_false_iff, Bool.and_eq_false_iff] at hc2) <;> try omega) | (refine onSt_if (by omega) ?_) | (split <;> try omega) | omega)
        · cases b2 with
          | false =>
            rw [hd]
            repeat' (first | (simp (config := sc) (disch := try exact dd) [*, std]) | (refine oc (addrFair _ _) ?_) | (refine oc (q1) ?_) | (refine oc (q2) ?_) | (refine sel_by ?_ ?_ <;> intro hc <;> have hc2 := hc <;> (try simp only [decide_eq_true_eq, decide_eq_false_iff_not, Bool.and_eq_true, Bool.or_eq_true, Bool.not_eq_true', Bool.not_eq_false', Bool.or_eq_false_iff, Bool.and_eq_false_iff] at hc2) <;> try omega) | (refine cnd_by ?_ ?_ <;> intro hc <;> have hc2 := hc <;> (try simp only [decide_eq_true_eq, decide_eq_false_iff_not, Bool.and_eq_true, Bool.or_eq_true, Bool.not_eq_true', Bool.not_eq_false', Bool.or_eq_false_iff, Bool.and_eq_false_iff] at hc2) <;> try omega) | (refine onSt_if (by omega) ?_) | (split <;> try omega) | omega)
          | true =>
            cases b3 with
            | false =>
              rw [hd]
              repeat' (first | (simp (config := sc) (disch := try exact dd) [*, std]) | (refine oc (addrFair _ _) ?_) | (refine oc (q1) ?_) | (refine oc (q2) ?_) | (refine oc (q3) ?_) | (refine sel_by ?_ ?_ <;> intro hc <;> have hc2 := hc <;> (try simp only [decide_eq_true_eq, decide_eq_false_iff_not, Bool.and_eq_true, Bool.or_eq_true, Bool.not_eq_true', Bool.not_eq_false', Bool.or_eq_false_iff, Bool.and_eq_false_iff] at hc2) <;> try omega) | (refine cnd_by ?_ ?_ <;> intro hc <;> have hc2 := hc <;> (try simp only [decide_eq_true_eq, decide_eq_false_iff_not, Bool.and_eq_true, Bool.or_eq_true, Bool.not_eq_true', Bool.not_eq_false', Bool.or_eq_false_iff, Bool.and_eq_false_iff] at hc2) <;> try omega) | (refine onSt_if (by omega) ?_) | (split <;> try omega) | omega)
            | true =>
              have hd2 : fairS s = (s.pools.all rngOk && s.res.all resKey) := by
                rw [hd, h0]
                simp [k1, k2]
              rw [hd2]
              clear hd hd2
              simp (config := sc) (disch := try exact dd) [std]
              refine oc (addrFair _ _) ?_
              simp (config := sc) (disch := try exact dd) [std, h0]
              refine oc q1 ?_
              simp (config := sc) (disch := try exact dd) [std, k1, k2]
              refine oc q2 ?_
              simp (config := sc) (disch := try exact dd) [std]
              refine oc q3 ?_
              simp (config := sc) (disch := try exact dd) [std]
              refine lp (fpI s) (fun i => s.pools.length - i) 0 ⟨by omega, by simp, by simp⟩ ?_
              rintro i S ⟨hi, ha, e1, e44, e45, e46⟩
              by_cases hlt : i < s.pools.length
              · have k6 : (i : Int) < s.pools.length := by omega
                by_cases hb : s.pools[i].first ≤ s.pools[i].last
                · have hb' : ¬ s.pools[i].last < s.pools[i].first := by omega
                  simp (config := sc) (disch := try exact dd) [std, e1, e44, e45, e46, k6, hb']
                  exact nxt_of (i + 1) ⟨by omega, allc_step hlt ha (decide_eq_true hb), by simp (config := sc) (disch := try exact dd) [std, e1, e44, e45, e46]⟩ (by omega)
                · have hb' : s.pools[i].last < s.pools[i].first := by omega
                  have hbad := allc_bad (p := rngOk) hlt (decide_eq_false hb)
                  rw [hbad]
                  simp (config := sc) (disch := try exact dd) [std, e1, e44, e45, e46, k6, hb']
              · have k6 : ¬ (i : Int) < s.pools.length := by omega
                rw [allc_end hlt ha]
                simp (config := sc) (disch := try exact dd) [std, e1, e44, e45, e46, k6]
                refine lp (frI s) (fun i => s.res.length - i) 0 ⟨by omega, by simp, by simp (config := sc) (disch := try exact dd) [std]⟩ ?_
                rintro i S ⟨hi, ha, e57, e58, e59⟩
                by_cases hlt : i < s.res.length
                · have k6 : (i : Int) < s.res.length := by omega
                  have hkl := hk _ (List.getElem_mem hlt)
                  cases hb : keyR s.res[i].key with
                  | true =>
                    simp (config := sc) (disch := try exact dd) [std, e57, e58, e59, k6]
                    refine oc (keyRight s.res[i].key (by omega)) ?_
                    simp (config := sc) (disch := try exact dd) [std, e57, e58, e59, hb]
                    exact nxt_of (i + 1) ⟨by omega, allc_step hlt ha hb, by simp (config := sc) (disch := try exact dd) [std, e57, e58, e59]⟩ (by omega)
                  | false =>
                    have hbad := allc_bad (p := resKey) hlt hb
                    rw [hbad]
                    simp (config := sc) (disch := try exact dd) [std, e57, e58, e59, k6]
                    refine oc (keyRight s.res[i].key (by omega)) ?_
                    simp (config := sc) (disch := try exact dd) [std, e57, e58, e59, hb]
                · have k6 : ¬ (i : Int) < s.res.length := by omega
                  rw [allc_end hlt ha]
                  simp (config := sc) (disch := try exact dd) [std, e57, e58, e59, k6]

def foI (c : Cfg) (i : Nat) (S : PS) : Prop :=
  i ≤ c.nets.length ∧ (c.nets.take i).all netOk = true ∧ S.t 1 = .cptr (cells c.d) ∧ S.t 24 = .d (.slice (c.nets.map Net.d)) ∧ S.t 25 = .d (.int .i64 c.nets.length) ∧ S.t 26 = .d (.int .i64 i)
def foJ (c : Cfg) (i : Nat) (S : PS) : Prop :=
  i ≤ (spotsS c).length ∧ ((spotsS c).take i).all fairX = true ∧ S.t 37 = .d (.slice ((spotsS c).map Spot.d)) ∧ S.t 38 = .d (.int .i64 (spotsS c).length) ∧ S.t 39 = .d (.int .i64 i)
theorem confForm (c : Cfg) (hc : sizedC c) : Holds Tryd.prog 81 [.d c.d] (.d (.bool (formS c))) (fun _ => false) := by
  refine Holds.by (by kernel_rfl) Tryd.func81 (by kernel_rfl) rfl [20001] (by simp) (by kernel_rfl) (by kernel_rfl) rfl ?_
  conv in ccs _ => cbv
  have hl := hc.1
  have hsl := spots_len hc
  have q1 := confWithin c.probation 1 2147483648
  have hd : formS c = (rightA c.server && decide (1 ≤ c.probation ∧ c.probation ≤ 2147483648) && decide (c.nets.length ≤ 4) && c.nets.all netOk && (spotsS c).all fairX) := rfl
  generalize decide (1 ≤ c.probation ∧ c.probation ≤ 2147483648) = b1 at q1 hd
  have w1 : (decide (c.nets.length ≤ 4)) = !decide ((4 : Int) < c.nets.length) := by rw [Bool.eq_iff_iff]; simp; omega
  rw [w1] at hd
  cases h0 : rightA c.server with
  | false =>
    rw [hd]
    repeat' (first | (simp (config := sc) (disch := try exact dd) [*, std]) | (refine oc (addrRight _) ?_) | (refine sel_by ?_ ?_ <;> intro hc <;> have hc2 := hc <;> (try simp only [decide_eq_true_eq, decide_eq_false_iff_not, Bool.and_eq_true, Bool.or_eq_true, Bool.not_eq_true', Bool.not_eq_false', Bool.or_eq_false_iff, Bool.and_eq_false_iff] at hc2) <;> try omega) | (refine cnd_by ?_ ?_ <;> intro hc <;> have hc2 := hc <;> (try simp only [decide_eq_true_eq, decide_eq_false_iff_not, Bool.and_eq_true, Bool.or_eq_true, Bool.not_eq_true', Bool.not_eq_false', Bool.or_eq_false_iff, Bool.and_eq_false_iff] at hc2) <;> try omega) | (refine onSt_if (by omega) ?_) | (split <;> try omega) | omega)
  | true =>
    cases b1 with
    | false =>
      rw [hd]
      repeat' (first | (simp (config := sc) (disch := try exact dd) [*, std]) | (refine oc (addrRight _) ?_) | (refine oc (q1) ?_) | (refine sel_by ?_ ?_ <;> intro hc <;> have hc2 := hc <;> (try simp only [decide_eq_true_eq, decide_eq_false_iff_not, Bool.and_eq_true, Bool.or_eq_true, Bool.not_eq_true', Bool.not_eq_false', Bool.or_eq_false_iff, Bool.and_eq_false_iff] at hc2) <;> try omega) | (refine cnd_by ?_ ?_ <;> intro hc <;> have hc2 := hc <;> (try simp only [decide_eq_true_eq, decide_eq_false_iff_not, Bool.and_eq_true, Bool.or_eq_true, Bool.not_eq_true', Bool.not_eq_false', Bool.or_eq_false_iff, Bool.and_eq_false_iff] at hc2) <;> try omega) | (refine onSt_if (by omega) ?_) | (split <;> try omega) | omega)
    | true =>
      by_cases k1 : (4 : Int) < c.nets.length
      · rw [hd]
        repeat' (first | (simp (config := sc) (disch := try exact dd) [*, std]) | (refine oc (addrRight _) ?_) | (refine oc (q1) ?_) | (refine sel_by ?_ ?_ <;> intro hc <;> have hc2 := hc <;> (try simp only [decide_eq_true_eq, decide_eq_false_iff_not, Bool.and_eq_true, Bool.or_eq_true, Bool.not_eq_true', Bool.not_eq_false', Bool.or_eq_false_iff, Bool.and_eq_false_iff] at hc2) <;> try omega) | (refine cnd_by ?_ ?_ <;> intro hc <;> have hc2 := hc <;> (try simp only [decide_eq_true_eq, decide_eq_false_iff_not, Bool.and_eq_true, Bool.or_eq_true, Bool.not_eq_true', Bool.not_eq_false', Bool.or_eq_false_iff, Bool.and_eq_false_iff] at hc2) <;> try omega) | (refine onSt_if (by omega) ?_) | (split <;> try omega) | omega)
      · have hd2 : formS c = (c.nets.all netOk && (spotsS c).all fairX) := by
          rw [hd, h0]
          simp [k1]
        rw [hd2]
        clear hd hd2
        simp (config := sc) (disch := try exact dd) [std]
        refine oc (addrRight _) ?_
        simp (config := sc) (disch := try exact dd) [std, h0]
        refine oc q1 ?_
        simp (config := sc) (disch := try exact dd) [std, k1]
        refine lp (foI c) (fun i => c.nets.length - i) 0 ⟨by omega, by simp, by simp⟩ ?_
        rintro i S ⟨hi, ha, e1, e24, e25, e26⟩
        by_cases hlt : i < c.nets.length
        · have k6 : (i : Int) < c.nets.length := by omega
          have q2 := confWithin (c.nets[i].subs.length : Int) 1 4
          have w2 : decide (1 ≤ c.nets[i].subs.length ∧ c.nets[i].subs.length ≤ 4) = decide ((1 : Int) ≤ c.nets[i].subs.length ∧ (c.nets[i].subs.length : Int) ≤ 4) := by rw [Bool.eq_iff_iff]; simp; omega
          rw [← w2] at q2
          cases hb : decide (1 ≤ c.nets[i].subs.length ∧ c.nets[i].subs.length ≤ 4) with
          | true =>
            rw [hb] at q2
            simp (config := sc) (disch := try exact dd) [std, e1, e24, e25, e26, k6]
            refine oc q2 ?_
            simp (config := sc) (disch := try exact dd) [std, e1, e24, e25, e26]
            exact nxt_of (i + 1) ⟨by omega, allc_step hlt ha hb, by simp (config := sc) (disch := try exact dd) [std, e1, e24, e25, e26]⟩ (by omega)
          | false =>
            rw [hb] at q2
            have hbad := allc_bad (p := netOk) hlt hb
            rw [hbad]
            simp (config := sc) (disch := try exact dd) [std, e1, e24, e25, e26, k6]
            refine oc q2 ?_
            simp (config := sc) (disch := try exact dd) [std, e1, e24, e25, e26]
        · have k6 : ¬ (i : Int) < c.nets.length := by omega
          rw [allc_end hlt ha]
          simp (config := sc) (disch := try exact dd) [std, e1, e24, e25, e26, k6]
          refine oc (confSpots c hc) ?_
          simp (config := sc) (disch := try exact dd) [std]
          refine lp (foJ c) (fun i => (spotsS c).length - i) 0 ⟨by omega, by simp, by simp (config := sc) (disch := try exact dd) [std]⟩ ?_
          rintro i S ⟨hi, ha, e37, e38, e39⟩
          by_cases hlt : i < (spotsS c).length
          · have k6 : (i : Int) < (spotsS c).length := by omega
            have hsz := spots_sized hc hlt
            cases hb : fairS (spotsS c)[i].s with
            | true =>
              simp (config := sc) (disch := try exact dd) [std, e37, e38, e39, k6]
              refine oc (confFair (spotsS c)[i].s hsz) ?_
              simp (config := sc) (disch := try exact dd) [std, e37, e38, e39, hb]
              exact nxt_of (i + 1) ⟨by omega, allc_step hlt ha hb, by simp (config := sc) (disch := try exact dd) [std, e37, e38, e39]⟩ (by omega)
            | false =>
              have hbad := allc_bad (p := fairX) hlt hb
              rw [hbad]
              simp (config := sc) (disch := try exact dd) [std, e37, e38, e39, k6]
              refine oc (confFair (spotsS c)[i].s hsz) ?_
              simp (config := sc) (disch := try exact dd) [std, e37, e38, e39, hb]
          · have k6 : ¬ (i : Int) < (spotsS c).length := by omega
            rw [allc_end hlt ha]
            simp (config := sc) (disch := try exact dd) [std, e37, e38, e39, k6]

theorem confInside (s : Sub) (a : Int) (hf : fairA s.base s.bits = true) : Holds Tryd.prog 91 [.d s.d, .d (.int .i64 a)] (.d (.bool (insideS s a))) (fun _ => false) := by
  refine Holds.by (by kernel_rfl) Tryd.func91 (by kernel_rfl) rfl [20002] (by simp) (by kernel_rfl) (by kernel_rfl) rfl ?_
  conv in ccs _ => cbv
  have h := addrLast s.base s.bits
  rw [if_pos hf, if_pos hf] at h
  repeat' (first | (simp (config := sc) (disch := try exact dd) [*, std, insideS]) | (refine oc (h) ?_) | (refine sel_by ?_ ?_ <;> intro hc <;> have hc2 := hc <;> (try simp only [decide_eq_true_eq, decide_eq_false_iff_not, Bool.and_eq_true, Bool.or_eq_true, Bool.not_eq_true', Bool.not_eq_false', Bool.or_eq_false_iff, Bool.and_eq_false_iff] at hc2) <;> try omega) | (refine cnd_by ?_ ?_ <;> intro hc <;> have hc2 := hc <;> (try simp only [decide_eq_true_eq, decide_eq_false_iff_not, Bool.and_eq_true, Bool.or_eq_true, Bool.not_eq_true', Bool.not_eq_false', Bool.or_eq_false_iff, Bool.and_eq_false_iff] at hc2) <;> try omega) | (refine onSt_if (by omega) ?_) | (split <;> try omega) | omega)

theorem confHas (p : Rng) (a : Int) : Holds Tryd.prog 92 [.d p.d, .d (.int .i64 a)] (.d (.bool (inR p a))) (fun _ => false) := by
  refine Holds.by (by kernel_rfl) Tryd.func92 (by kernel_rfl) rfl [20002] (by simp) (by kernel_rfl) (by kernel_rfl) rfl ?_
  conv in ccs _ => cbv
  repeat' (first | (simp (config := sc) (disch := try exact dd) [*, std, inR]) | (refine oc (confWithin a p.first p.last) ?_) | (refine sel_by ?_ ?_ <;> intro hc <;> have hc2 := hc <;> (try simp only [decide_eq_true_eq, decide_eq_false_iff_not, Bool.and_eq_true, Bool.or_eq_true, Bool.not_eq_true', Bool.not_eq_false', Bool.or_eq_false_iff, Bool.and_eq_false_iff] at hc2) <;> try omega) | (refine cnd_by ?_ ?_ <;> intro hc <;> have hc2 := hc <;> (try simp only [decide_eq_true_eq, decide_eq_false_iff_not, Bool.and_eq_true, Bool.or_eq_true, Bool.not_eq_true', Bool.not_eq_false', Bool.or_eq_false_iff, Bool.and_eq_false_iff] at hc2) <;> try omega) | (refine onSt_if (by omega) ?_) | (split <;> try omega) | omega)

theorem form_fair {c : Cfg} (hf : formS c = true) {i : Nat} (hi : i < (spotsS c).length) : fairS (spotsS c)[i].s = true := by
  simp only [formS, Bool.and_eq_true, List.all_eq_true] at hf
  exact hf.2 _ (List.getElem_mem hi)
theorem fair_A {s : Sub} (h : fairS s = true) : fairA s.base s.bits = true := by
  simp only [fairS, Bool.and_eq_true] at h
  exact h.1.1.1.1.1.1.1

def pdI (c : Cfg) (i : Nat) (S : PS) : Prop :=
  i ≤ (spotsS c).length ∧ ((spotsS c).take i).all (plX c) = true ∧ S.t 1 = .cptr (cells c.d) ∧ S.t 10 = .d (.slice ((spotsS c).map Spot.d)) ∧ S.t 11 = .d (.int .i64 (spotsS c).length) ∧ S.t 12 = .d (.int .i64 i)
def pdP (c : Cfg) (x : Spot) (i fo g : Nat) (k : Nat) (S : PS) : Prop :=
  k ≤ x.s.pools.length ∧ (x.s.pools.take k).all (poolOk c.server x.s) = true ∧ S.t 1 = .cptr (cells c.d) ∧ S.t 10 = .d (.slice ((spotsS c).map Spot.d)) ∧ S.t 11 = .d (.int .i64 (spotsS c).length) ∧ S.t 12 = .d (.int .i64 i) ∧
    S.t 4 = .ptr (fo + 4) g 0 ∧ S.fo = fo ∧ S.gen (fo + 4) = g ∧ S.box (fo + 4) = (cells x.d).map .d ∧ S.t 18 = .d (.slice (x.s.pools.map Rng.d)) ∧ S.t 19 = .d (.int .i64 x.s.pools.length) ∧ S.t 20 = .d (.int .i64 k)
def pdR (c : Cfg) (x : Spot) (i fo g : Nat) (k : Nat) (S : PS) : Prop :=
  k ≤ x.s.res.length ∧ (x.s.res.take k).all (resOkS c.server x.s) = true ∧ S.t 1 = .cptr (cells c.d) ∧ S.t 10 = .d (.slice ((spotsS c).map Spot.d)) ∧ S.t 11 = .d (.int .i64 (spotsS c).length) ∧ S.t 12 = .d (.int .i64 i) ∧
    S.t 4 = .ptr (fo + 4) g 0 ∧ S.fo = fo ∧ S.gen (fo + 4) = g ∧ S.box (fo + 4) = (cells x.d).map .d ∧ S.t 47 = .d (.slice (x.s.res.map Res.d)) ∧ S.t 48 = .d (.int .i64 x.s.res.length) ∧ S.t 49 = .d (.int .i64 k)
theorem confPlaced (c : Cfg) (hc : sizedC c) (hf : formS c = true) : Holds Tryd.prog 82 [.d c.d] (.d (.bool (placedS c))) (fun _ => false) := by
  refine Holds.by (by kernel_rfl) Tryd.func82 (by kernel_rfl) rfl [20001] (by simp) (by kernel_rfl) (by kernel_rfl) rfl ?_
  conv in ccs _ => cbv
  have hsl := spots_len hc
  simp (config := sc) (disch := try exact dd) [std]
  refine oc (confSpots c hc) ?_
  simp (config := sc) (disch := try exact dd) [std]
  refine lp (pdI c) (fun i => (spotsS c).length - i) 0 ⟨by omega, by simp, by simp (config := sc) (disch := try exact dd) [std]⟩ ?_
  rintro i S ⟨hi, ha, e1, e10, e11, e12⟩
  by_cases hlt : i < (spotsS c).length
  · have k6 : (i : Int) < (spotsS c).length := by omega
    have hsz := spots_sized hc hlt
    have hfa := fair_A (form_fair hf hlt)
    have hpx := @allc_bad _ (plX c) _ i hlt
    have hpy := @allc_step _ (plX c) _ i hlt ha
    generalize hx : (spotsS c)[i] = x at hsz hfa hpx hpy
    obtain ⟨hp, hr, hk⟩ := hsz
    simp (config := sc) (disch := try exact dd) [std, e1, e10, e11, e12, k6, hx]
    refine lp (pdP c x i S.fo (S.gen (S.fo + 4) + 1)) (fun k => x.s.pools.length - k) 0 ⟨by omega, by simp, by simp (config := sc) (disch := try exact dd) [std, e1, e10, e11, e12]⟩ ?_
    rintro k S1 ⟨hki, hka, e1, e10, e11, e12, e4, efo, eg, eb, e18, e19, e20⟩
    simp only [Spot.d_eq, cells_agg, List.map_cons, List.map_nil] at eb
    by_cases hlt2 : k < x.s.pools.length
    · have k7 : (k : Int) < x.s.pools.length := by omega
      have hbx := @allc_bad _ (poolOk c.server x.s) _ k hlt2
      have hby := @allc_step _ (poolOk c.server x.s) _ k hlt2 hka
      have hdef : poolOk c.server x.s x.s.pools[k] = (insideS x.s x.s.pools[k].first && insideS x.s x.s.pools[k].last && !inR x.s.pools[k] c.server) := rfl
      rw [hdef] at hbx hby
      have hpl : (x.s.pools.all (poolOk c.server x.s)) = false → placedS c = false := fun h => hpx (by simp [plX, placedX, h])
      simp (config := sc) (disch := try exact dd) [std, e1, e10, e11, e12, e4, efo, eg, eb, e18, e19, e20, k7]
      refine oc (confInside x.s x.s.pools[k].first hfa) ?_
      cases h1 : insideS x.s x.s.pools[k].first with
      | false =>
        have hz := hpl (hbx (by simp [h1]))
        simp (config := sc) (disch := try exact dd) [std, hz]
      | true =>
        simp (config := sc) (disch := try exact dd) [std, e1, e10, e11, e12, e4, efo, eg, eb, e18, e19, e20, k7]
        refine oc (confInside x.s x.s.pools[k].last hfa) ?_
        cases h2 : insideS x.s x.s.pools[k].last with
        | false =>
          have hz := hpl (hbx (by simp [h2]))
          simp (config := sc) (disch := try exact dd) [std, hz]
        | true =>
          simp (config := sc) (disch := try exact dd) [std, e1, e10, e11, e12, e4, efo, eg, eb, e18, e19, e20, k7]
          refine oc (confHas x.s.pools[k] c.server) ?_
          cases h3 : inR x.s.pools[k] c.server with
          | true =>
            have hz := hpl (hbx (by simp [h3]))
            simp (config := sc) (disch := try exact dd) [std, hz]
          | false =>
            simp (config := sc) (disch := try exact dd) [std, e1, e10, e11, e12, e4, efo, eg, eb, e18, e19, e20, k7]
            exact nxt_of (k + 1) ⟨by omega, hby (by simp [h1, h2, h3]), by simp (config := sc) (disch := try exact dd) [std, e1, e10, e11, e12, e4, efo, eg, eb, e18, e19, e20]⟩ (by omega)
    · have k7 : ¬ (k : Int) < x.s.pools.length := by omega
      have hpall := allc_end hlt2 hka
      simp (config := sc) (disch := try exact dd) [std, e1, e10, e11, e12, e4, efo, eg, eb, e18, e19, e20, k7]
      refine lp (pdR c x i S.fo (S.gen (S.fo + 4) + 1)) (fun k => x.s.res.length - k) 0 ⟨by omega, by simp, by simp (config := sc) (disch := try exact dd) [std, e1, e10, e11, e12, e4, efo, eg, eb]⟩ ?_
      clear e1 e10 e11 e12 e4 efo eg eb e18 e19 e20
      rintro k S2 ⟨hki, hka, e1, e10, e11, e12, e4, efo, eg, eb, e47, e48, e49⟩
      simp only [Spot.d_eq, cells_agg, List.map_cons, List.map_nil] at eb
      by_cases hlt3 : k < x.s.res.length
      · have k7 : (k : Int) < x.s.res.length := by omega
        have hbx := @allc_bad _ (resOkS c.server x.s) _ k hlt3
        have hby := @allc_step _ (resOkS c.server x.s) _ k hlt3 hka
        have hdef : resOkS c.server x.s x.s.res[k] = (insideS x.s x.s.res[k].addr && !decide (x.s.res[k].addr = c.server)) := rfl
        rw [hdef] at hbx hby
        have hpl : (x.s.res.all (resOkS c.server x.s)) = false → placedS c = false := fun h => hpx (by simp [plX, placedX, h])
        simp (config := sc) (disch := try exact dd) [std, e1, e10, e11, e12, e4, efo, eg, eb, e47, e48, e49, k7]
        refine oc (confInside x.s x.s.res[k].addr hfa) ?_
        cases h1 : insideS x.s x.s.res[k].addr with
        | false =>
          have hz := hpl (hbx (by simp [h1]))
          simp (config := sc) (disch := try exact dd) [std, hz]
        | true =>
          by_cases h2 : x.s.res[k].addr = c.server
          · have hz := hpl (hbx (by simp [h2]))
            simp (config := sc) (disch := try exact dd) [std, e1, e10, e11, e12, e4, efo, eg, eb, e47, e48, e49, k7, h2, hz]
          · simp (config := sc) (disch := try exact dd) [std, e1, e10, e11, e12, e4, efo, eg, eb, e47, e48, e49, k7, h2]
            exact nxt_of (k + 1) ⟨by omega, hby (by simp [h1, h2]), by simp (config := sc) (disch := try exact dd) [std, e1, e10, e11, e12, e4, efo, eg, eb, e47, e48, e49]⟩ (by omega)
      · have k7 : ¬ (k : Int) < x.s.res.length := by omega
        have hrall := allc_end hlt3 hka
        have hpl : routeOk x.s = false → placedS c = false := fun h => hpx (by simp [plX, placedX, h])
        have hpo : routeOk x.s = true → (List.take (i + 1) (spotsS c)).all (plX c) = true := fun h => hpy (by simp [plX, placedX, h, hpall, hrall])
        by_cases h1 : x.s.router = 0
        · simp (config := sc) (disch := try exact dd) [std, e1, e10, e11, e12, e4, efo, eg, eb, e47, e48, e49, k7, h1]
          exact nxt_of (i + 1) ⟨by omega, hpo (by simp [routeOk, h1]), by simp (config := sc) (disch := try exact dd) [std, e1, e10, e11, e12]⟩ (by omega)
        · simp (config := sc) (disch := try exact dd) [std, e1, e10, e11, e12, e4, efo, eg, eb, e47, e48, e49, k7, h1]
          refine oc (addrHas x.s.base x.s.bits x.s.router) ?_
          cases h2 : hasA x.s.base x.s.bits x.s.router with
          | false =>
            have hz := hpl (by simp [routeOk, h1, h2])
            simp (config := sc) (disch := try exact dd) [std, hz]
          | true =>
            simp (config := sc) (disch := try exact dd) [std, e1, e10, e11, e12]
            exact nxt_of (i + 1) ⟨by omega, hpo (by simp [routeOk, h1, h2]), by simp (config := sc) (disch := try exact dd) [std, e1, e10, e11, e12]⟩ (by omega)
  · have k6 : ¬ (i : Int) < (spotsS c).length := by omega
    have hz : placedS c = true := allc_end hlt ha
    simp (config := sc) (disch := try exact dd) [std, e1, e10, e11, e12, k6, hz]

theorem zip_at {α : Type} {l : List α} {i : Nat} (h : i < l.zipIdx.length) : l.zipIdx[i] = (l[i]'(by simpa using h), i) := by simp
theorem zall_step {α : Type} {p : α × Nat → Bool} {l : List α} {i : Nat} (h : i < l.length) (ha : (l.zipIdx.take i).all p = true) (hp : p (l[i], i) = true) : (l.zipIdx.take (i + 1)).all p = true :=
  allc_step (by simpa using h) ha (by rw [zip_at]; exact hp)
theorem zall_bad {α : Type} {p : α × Nat → Bool} {l : List α} {i : Nat} (h : i < l.length) (hp : p (l[i], i) = false) : l.zipIdx.all p = false :=
  allc_bad (i := i) (by simpa using h) (by rw [zip_at]; exact hp)
theorem zall_end {α : Type} {p : α × Nat → Bool} {l : List α} {i : Nat} (h : ¬ i < l.length) (ha : (l.zipIdx.take i).all p = true) : l.zipIdx.all p = true :=
  allc_end (by simpa using h) ha

def onI (x y : Spot) (same : Bool) (i : Nat) (S : PS) : Prop :=
  i ≤ x.s.pools.length ∧ (x.s.pools.zipIdx.take i).all (poolRow same y.s.pools) = true ∧ S.t 2 = .d (.bool same) ∧ S.t 3 = .cptr (cells x.d) ∧ S.t 4 = .cptr (cells y.d) ∧
    S.t 56 = .d (.slice (x.s.pools.map Rng.d)) ∧ S.t 57 = .d (.int .i64 x.s.pools.length) ∧ S.t 58 = .d (.int .i64 i)
def onJ (x y : Spot) (same : Bool) (i : Nat) (p : Rng) (fo g : Nat) (k : Nat) (S : PS) : Prop :=
  k ≤ y.s.pools.length ∧ (y.s.pools.zipIdx.take k).all (poolPair same (p, i)) = true ∧ S.t 2 = .d (.bool same) ∧ S.t 3 = .cptr (cells x.d) ∧ S.t 4 = .cptr (cells y.d) ∧
    S.t 56 = .d (.slice (x.s.pools.map Rng.d)) ∧ S.t 57 = .d (.int .i64 x.s.pools.length) ∧ S.t 58 = .d (.int .i64 i) ∧ S.t 7 = .d (.int .i64 i) ∧
    S.t 8 = .ptr (fo + 8) g 0 ∧ S.fo = fo ∧ S.gen (fo + 8) = g ∧ S.box (fo + 8) = (cells p.d).map .d ∧ S.t 65 = .d (.slice (y.s.pools.map Rng.d)) ∧ S.t 66 = .d (.int .i64 y.s.pools.length) ∧ S.t 67 = .d (.int .i64 k)
def orI (x y : Spot) (one same : Bool) (i : Nat) (S : PS) : Prop :=
  i ≤ x.s.res.length ∧ (x.s.res.zipIdx.take i).all (resRow one same y.s.res) = true ∧ S.t 2 = .d (.bool same) ∧ S.t 3 = .cptr (cells x.d) ∧ S.t 4 = .cptr (cells y.d) ∧
    S.t 94 = .d (.slice (x.s.res.map Res.d)) ∧ S.t 95 = .d (.int .i64 x.s.res.length) ∧ S.t 96 = .d (.int .i64 i)
def orJ (x y : Spot) (one same : Bool) (i : Nat) (r : Res) (fo g : Nat) (k : Nat) (S : PS) : Prop :=
  k ≤ y.s.res.length ∧ (y.s.res.zipIdx.take k).all (resPair one same (r, i)) = true ∧ S.t 2 = .d (.bool same) ∧ S.t 3 = .cptr (cells x.d) ∧ S.t 4 = .cptr (cells y.d) ∧
    S.t 94 = .d (.slice (x.s.res.map Res.d)) ∧ S.t 95 = .d (.int .i64 x.s.res.length) ∧ S.t 96 = .d (.int .i64 i) ∧ S.t 11 = .d (.int .i64 i) ∧
    S.t 12 = .ptr (fo + 12) g 0 ∧ S.fo = fo ∧ S.gen (fo + 12) = g ∧ S.box (fo + 12) = (cells r.d).map .d ∧ S.t 103 = .d (.slice (y.s.res.map Res.d)) ∧ S.t 104 = .d (.int .i64 y.s.res.length) ∧ S.t 105 = .d (.int .i64 k)
set_option maxHeartbeats 4000000 in
theorem confOnce (x y : Spot) (same : Bool) (hx : sizedS x.s) (hy : sizedS y.s) (hxn : x.net ≤ 100000) (hyn : y.net ≤ 100000) : Holds Tryd.prog 94 [.d x.d, .d y.d, .d (.bool same)] (.d (.bool (onceS x y same))) (fun _ => false) := by
  refine Holds.by (by kernel_rfl) Tryd.func94 (by kernel_rfl) rfl [20003, 20004] (by simp) (by kernel_rfl) (by kernel_rfl) rfl ?_
  conv in ccs _ => cbv
  obtain ⟨hp, hr, hk⟩ := hx
  obtain ⟨hp', hr', hk'⟩ := hy
  have hm := addrMeet x.s.base x.s.bits y.s.base y.s.bits
  rw [meet_eq] at hm
  have hnn : (x.net : Int) = y.net ↔ x.net = y.net := by omega
  have hdef : onceS x y same = ((same || apartS x y) && x.s.pools.zipIdx.all (poolRow same y.s.pools) && x.s.res.zipIdx.all (resRow (decide (x.net = y.net)) same y.s.res)) := rfl
  obtain ⟨one, hone⟩ : ∃ one, decide (x.net = y.net) = one := ⟨_, rfl⟩
  rw [hone] at hdef
  cases hao : (same || apartS x y) with
  | false =>
    have h1 : same = false := by cases same <;> simp_all
    have h2 : apartS x y = false := by cases same <;> simp_all
    rw [hdef, hao]
    subst h1
    cases h3 : meetA x.s.base x.s.bits y.s.base y.s.bits with
    | true => repeat' (first | (simp (config := sc) (disch := try exact dd) [*, std]) | (refine oc (hm) ?_) | (refine sel_by ?_ ?_ <;> intro hc <;> have hc2 := hc <;> (try simp only [decide_eq_true_eq, decide_eq_false_iff_not, Bool.and_eq_true, Bool.or_eq_true, Bool.not_eq_true', Bool.not_eq_false', Bool.or_eq_false_iff, Bool.and_eq_false_iff] at hc2) <;> try omega) | (refine cnd_by ?_ ?_ <;> intro hc <;> have hc2 := hc <;> (try simp only [decide_eq_true_eq, decide_eq_false_iff_not, Bool.and_eq_true, Bool.or_eq_true, Bool.not_eq_true', Bool.not_eq_false', Bool.or_eq_false_iff, Bool.and_eq_false_iff] at hc2) <;> try omega) | (refine onSt_if (by omega) ?_) | (split <;> try omega) | omega)
    | false =>
      have h4 : ¬ x.net = y.net ∧ x.s.iface = y.s.iface ∧ 0 < x.s.iface := by
        simp [apartS, h3] at h2
        exact ⟨h2.1.1, h2.1.2, h2.2⟩
      obtain ⟨n1, n2, n3⟩ := h4
      have h5 : ¬ (x.net : Int) = y.net := by omega
      have n4 : 0 < y.s.iface := by omega
      rw [h3] at hm
      simp (config := sc) (disch := try exact dd) [std]
      refine oc hm ?_
      simp (config := sc) (disch := try exact dd) [std, h5, n2, n3, n4]
  | true =>
    have hd2 : onceS x y same = (x.s.pools.zipIdx.all (poolRow same y.s.pools) && x.s.res.zipIdx.all (resRow one same y.s.res)) := by rw [hdef, hao]; simp
    rw [hd2]
    cases hs : (!same)
    case' true =>
      have h1 : same = false := by simpa using hs
      have h2 : apartS x y = true := by simpa [h1] using hao
      have h3 : meetA x.s.base x.s.bits y.s.base y.s.bits = false := by
        cases h : meetA x.s.base x.s.bits y.s.base y.s.bits with
        | false => rfl
        | true => simp [apartS, h] at h2
      rw [h3] at hm
      simp (config := sc) (disch := try exact dd) [std, hs]
      refine oc hm ?_
      by_cases k1 : (x.net : Int) = y.net
      case' pos =>
        have k1' := eq_true k1
        simp (config := sc) (disch := try exact dd) [std, k1']; clear k1 k1'
      case' neg =>
        by_cases k2 : x.s.iface = y.s.iface
        case' pos =>
          have k3 : ¬ 0 < y.s.iface := by
            intro h
            simp [apartS, h3, k2, h] at h2
            omega
          have k2' := eq_true k2
          simp (config := sc) (disch := try exact dd) [std, k1, k2', k3]; clear k1 k2 k3 k2'
        case' neg => simp (config := sc) (disch := try exact dd) [std, k1, k2]; clear k1 k2
    case' false => simp (config := sc) (disch := try exact dd) [std, hs]
    all_goals
      refine lp (onI x y same) (fun i => x.s.pools.length - i) 0 ⟨by omega, by simp, by simp⟩ ?_
      rintro i S ⟨hi, ha, e2, e3, e4, e56, e57, e58⟩
      by_cases hlt : i < x.s.pools.length
      · have k6 : (i : Int) < x.s.pools.length := by omega
        simp (config := sc) (disch := try exact dd) [std, e2, e3, e4, e56, e57, e58, k6]
        refine lp (onJ x y same i x.s.pools[i] S.fo (S.gen (S.fo + 8) + 1)) (fun k => y.s.pools.length - k) 0 ⟨by omega, by simp, by simp (config := sc) (disch := try exact dd) [std, e2, e3, e4, e56, e57, e58]⟩ ?_
        rintro k S1 ⟨hki, hka, e2, e3, e4, e56, e57, e58, e7, e8, efo, eg, eb, e65, e66, e67⟩
        simp only [Rng.d_eq, cells_agg, List.map_cons, List.map_nil] at eb
        by_cases hlt2 : k < y.s.pools.length
        · have k7 : (k : Int) < y.s.pools.length := by omega
          have hpair : poolPair same (x.s.pools[i], i) (y.s.pools[k], k) = !(same && !decide (i = k) && (inR x.s.pools[i] y.s.pools[k].first || inR y.s.pools[k] x.s.pools[i].first)) := rfl
          have hbx := fun (hq : poolPair same (x.s.pools[i], i) (y.s.pools[k], k) = false) => zall_bad (p := poolRow same y.s.pools) hlt (zall_bad (p := poolPair same (x.s.pools[i], i)) hlt2 hq)
          have hby := zall_step (p := poolPair same (x.s.pools[i], i)) hlt2 hka
          cases hsm : same with
          | false =>
            rw [hsm] at hby hpair
            simp (config := sc) (disch := try exact dd) [std, e2, e3, e4, e56, e57, e58, e7, e8, efo, eg, eb, e65, e66, e67, k7, hsm]
            exact nxt_of (k + 1) ⟨by omega, hby (by rw [hpair]; simp), by simp (config := sc) (disch := try exact dd) [std, e2, e3, e4, e56, e57, e58, e7, e8, efo, eg, eb, e65, e66, e67, hsm]⟩ (by omega)
          | true =>
            rw [hsm] at hby hpair hbx
            by_cases hik : i = k
            · have hik' : (i : Int) = k := by omega
              simp (config := sc) (disch := try exact dd) [std, e2, e3, e4, e56, e57, e58, e7, e8, efo, eg, eb, e65, e66, e67, k7, hsm, hik']
              exact nxt_of (k + 1) ⟨by omega, hby (by rw [hpair]; simp [hik]), by simp (config := sc) (disch := try exact dd) [std, e2, e3, e4, e56, e57, e58, e7, e8, efo, eg, eb, e65, e66, e67, hsm]⟩ (by omega)
            · have hik' : ¬ (i : Int) = k := by omega
              simp (config := sc) (disch := try exact dd) [std, e2, e3, e4, e56, e57, e58, e7, e8, efo, eg, eb, e65, e66, e67, k7, hsm, hik']
              refine oc (confHas x.s.pools[i] y.s.pools[k].first) ?_
              cases h1 : inR x.s.pools[i] y.s.pools[k].first with
              | true =>
                have hz := hbx (by rw [hpair]; simp [hik, h1])
                simp (config := sc) (disch := try exact dd) [std, hz]
              | false =>
                simp (config := sc) (disch := try exact dd) [std, e2, e3, e4, e56, e57, e58, e7, e8, efo, eg, eb, e65, e66, e67]
                refine oc (confHas y.s.pools[k] x.s.pools[i].first) ?_
                cases h2 : inR y.s.pools[k] x.s.pools[i].first with
                | true =>
                  have hz := hbx (by rw [hpair]; simp [hik, h2])
                  simp (config := sc) (disch := try exact dd) [std, hz]
                | false =>
                  simp (config := sc) (disch := try exact dd) [std, e2, e3, e4, e56, e57, e58, e7, e8, efo, eg, eb, e65, e66, e67]
                  exact nxt_of (k + 1) ⟨by omega, hby (by rw [hpair]; simp [h1, h2]), by simp (config := sc) (disch := try exact dd) [std, e2, e3, e4, e56, e57, e58, e7, e8, efo, eg, eb, e65, e66, e67, hsm]⟩ (by omega)
        · have k7 : ¬ (k : Int) < y.s.pools.length := by omega
          simp (config := sc) (disch := try exact dd) [std, e2, e3, e4, e56, e57, e58, e7, e65, e66, e67, k7]
          exact nxt_of (i + 1) ⟨by omega, zall_step hlt ha (zall_end hlt2 hka), by simp (config := sc) (disch := try exact dd) [std, e2, e3, e4, e56, e57, e58]⟩ (by omega)
      · have k6 : ¬ (i : Int) < x.s.pools.length := by omega
        rw [zall_end hlt ha]
        simp (config := sc) (disch := try exact dd) [std, e2, e3, e4, e56, e57, e58, k6]
        refine lp (orI x y one same) (fun i => x.s.res.length - i) 0 ⟨by omega, by simp, by simp (config := sc) (disch := try exact dd) [std, e2, e3, e4]⟩ ?_
        clear ha e2 e3 e4 e56 e57 e58 k6 hlt hi
        rintro i S ⟨hi, ha, e2, e3, e4, e94, e95, e96⟩
        by_cases hlt : i < x.s.res.length
        · have k6 : (i : Int) < x.s.res.length := by omega
          simp (config := sc) (disch := try exact dd) [std, e2, e3, e4, e94, e95, e96, k6]
          refine lp (orJ x y one same i x.s.res[i] S.fo (S.gen (S.fo + 12) + 1)) (fun k => y.s.res.length - k) 0 ⟨by omega, by simp, by simp (config := sc) (disch := try exact dd) [std, e2, e3, e4, e94, e95, e96]⟩ ?_
          rintro k S1 ⟨hki, hka, e2, e3, e4, e94, e95, e96, e11, e12, efo, eg, eb, e103, e104, e105⟩
          simp only [Res.d_eq, cells_agg, List.map_cons, List.map_nil] at eb
          by_cases hlt2 : k < y.s.res.length
          · have k7 : (k : Int) < y.s.res.length := by omega
            have hpair : resPair one same (x.s.res[i], i) (y.s.res[k], k) = !((!same || !decide (i = k)) && (decide (x.s.res[i].addr = y.s.res[k].addr) || one && decide (x.s.res[i].key = y.s.res[k].key))) := rfl
            have hbx := fun (hq : resPair one same (x.s.res[i], i) (y.s.res[k], k) = false) => zall_bad (p := resRow one same y.s.res) hlt (zall_bad (p := resPair one same (x.s.res[i], i)) hlt2 hq)
            have hby := zall_step (p := resPair one same (x.s.res[i], i)) hlt2 hka
            have hnx : ∀ {S' : PS}, orJ x y one same i x.s.res[i] S.fo (S.gen (S.fo + 12) + 1) (k + 1) S' → nxt (orJ x y one same i x.s.res[i] S.fo (S.gen (S.fo + 12) + 1)) (fun k => y.s.res.length - k) k S' := fun h => nxt_of (k + 1) h (by show y.s.res.length - (k + 1) < y.s.res.length - k; omega)
            by_cases hsk : same = true ∧ i = k
            · have hik' : (i : Int) = k := by omega
              have hns : (!same) = false := by rw [hsk.1]; rfl
              simp (config := sc) (disch := try exact dd) [std, e2, e3, e4, e94, e95, e96, e11, e12, efo, eg, eb, e103, e104, e105, k7, hns, hik']
              exact hnx ⟨by omega, hby (by rw [hpair]; simp [hsk.1, hsk.2]), by simp (config := sc) (disch := try exact dd) [std, e2, e3, e4, e94, e95, e96, e11, e12, efo, eg, eb, e103, e104, e105]⟩
            · have hne : ((!same) || !decide (i = k)) = true := by
                cases hsm : same with
                | false => rfl
                | true =>
                  have : ¬ i = k := fun h => hsk ⟨hsm, h⟩
                  simp [this]
              rw [hne] at hpair
              have hst : ∀ {Q : Prop}, ((!same) = true → Q) → ((!same) = false → ¬ (i : Int) = k → Q) → Q := by
                intro Q h1 h2
                cases hsm : same with
                | false => exact h1 (by rw [hsm]; rfl)
                | true => exact h2 (by rw [hsm]; rfl) (fun h => hsk ⟨hsm, by omega⟩)
              by_cases h1 : x.s.res[i].addr = y.s.res[k].addr
              · have hz := hbx (by rw [hpair]; simp [h1])
                refine hst (fun hsm => ?_) (fun hsm hik => ?_)
                · simp (config := sc) (disch := try exact dd) [std, e2, e3, e4, e94, e95, e96, e11, e12, efo, eg, eb, e103, e104, e105, k7, hsm, h1, hz]
                · simp (config := sc) (disch := try exact dd) [std, e2, e3, e4, e94, e95, e96, e11, e12, efo, eg, eb, e103, e104, e105, k7, hsm, hik, h1, hz]
              · by_cases h2 : (x.net : Int) = y.net
                · have h2n : one = true := by rw [← hone]; exact decide_eq_true (hnn.1 h2)
                  by_cases h3 : x.s.res[i].key = y.s.res[k].key
                  · have hz := hbx (by rw [hpair]; simp [h2n, h3])
                    refine hst (fun hsm => ?_) (fun hsm hik => ?_)
                    · simp (config := sc) (disch := try exact dd) [std, e2, e3, e4, e94, e95, e96, e11, e12, efo, eg, eb, e103, e104, e105, k7, hsm, h1, h2, h3, hz]
                    · simp (config := sc) (disch := try exact dd) [std, e2, e3, e4, e94, e95, e96, e11, e12, efo, eg, eb, e103, e104, e105, k7, hsm, hik, h1, h2, h3, hz]
                  · refine hst (fun hsm => ?_) (fun hsm hik => ?_)
                    · simp (config := sc) (disch := try exact dd) [std, e2, e3, e4, e94, e95, e96, e11, e12, efo, eg, eb, e103, e104, e105, k7, hsm, h1, h2, h3]
                      exact hnx ⟨by omega, hby (by rw [hpair]; simp [h1, h3]), by simp (config := sc) (disch := try exact dd) [std, e2, e3, e4, e94, e95, e96, e11, e12, efo, eg, eb, e103, e104, e105]⟩
                    · simp (config := sc) (disch := try exact dd) [std, e2, e3, e4, e94, e95, e96, e11, e12, efo, eg, eb, e103, e104, e105, k7, hsm, hik, h1, h2, h3]
                      exact hnx ⟨by omega, hby (by rw [hpair]; simp [h1, h3]), by simp (config := sc) (disch := try exact dd) [std, e2, e3, e4, e94, e95, e96, e11, e12, efo, eg, eb, e103, e104, e105]⟩
                · have h2n : one = false := by rw [← hone]; exact decide_eq_false (fun h => h2 (hnn.2 h))
                  refine hst (fun hsm => ?_) (fun hsm hik => ?_)
                  · simp (config := sc) (disch := try exact dd) [std, e2, e3, e4, e94, e95, e96, e11, e12, efo, eg, eb, e103, e104, e105, k7, hsm, h1, h2]
                    exact hnx ⟨by omega, hby (by rw [hpair]; simp [h1, h2n]), by simp (config := sc) (disch := try exact dd) [std, e2, e3, e4, e94, e95, e96, e11, e12, efo, eg, eb, e103, e104, e105]⟩
                  · simp (config := sc) (disch := try exact dd) [std, e2, e3, e4, e94, e95, e96, e11, e12, efo, eg, eb, e103, e104, e105, k7, hsm, hik, h1, h2]
                    exact hnx ⟨by omega, hby (by rw [hpair]; simp [h1, h2n]), by simp (config := sc) (disch := try exact dd) [std, e2, e3, e4, e94, e95, e96, e11, e12, efo, eg, eb, e103, e104, e105]⟩
          · have k7 : ¬ (k : Int) < y.s.res.length := by omega
            simp (config := sc) (disch := try exact dd) [std, e2, e3, e4, e94, e95, e96, e11, e103, e104, e105, k7]
            exact nxt_of (i + 1) ⟨by omega, zall_step hlt ha (zall_end hlt2 hka), by simp (config := sc) (disch := try exact dd) [std, e2, e3, e4, e94, e95, e96]⟩ (by omega)
        · have k6 : ¬ (i : Int) < x.s.res.length := by omega
          rw [zall_end hlt ha]
          simp (config := sc) (disch := try exact dd) [std, e2, e3, e4, e94, e95, e96, k6]

end Go.Proofs.YtimlalndjfmnbaaDoor
