/- What becomes of a message: plain. -/
import Derived.Test.YtnkmlhlegndlhaaGreatChoose2
import Derived.Test.YtnkmlhlegndlhaaGreatKeyOf
import Derived.Test.YtnkmlhlegndlhaaGreatWire
import Derived.Test.YtnkmlhlegndlhaaGreatClass
import Derived.Test.YtnkmlhlegndlhaaGreatPick
import Derived.Test.YtnkmlhlegndlhaaGreatRecord
namespace Go.Proofs.YtnkmlhlegndlhaaGreat
open BoEng Go
set_option maxRecDepth 100000
set_option linter.unusedSimpArgs false
set_option linter.unusedVariables false
structure DestR where
 addr : Int
 port : Int
 raw : Bool
 deriving Inhabited, DecidableEq
def DestR.d (x : DestR) : DV := .agg [.int .i64 x.addr, .int .i64 x.port, .bool x.raw]
@[simp] theorem DestR.d_eq (x : DestR) : x.d = .agg [.int .i64 x.addr, .int .i64 x.port, .bool x.raw] := rfl
def destR (m : Msg) (kind yi : Int) : DestR :=
 if m.gi ≠ 0 then ⟨m.gi, 67, false⟩ else if kind = 6 then ⟨4294967295, 68, false⟩ else if m.ci ≠ 0 then ⟨m.ci, 68, false⟩
 else if 32768 ≤ m.flags ∧ m.flags ≤ 65535 then ⟨4294967295, 68, false⟩ else ⟨yi, 68, true⟩
structure AnsR where
 send : Bool
 keep : Bool
 reply : Msg
 to : DestR
 lease : LeaseR
def AnsR.d (a : AnsR) : DV := .agg ([.bool a.send, .bool a.keep] ++ cells a.reply.d ++ cells a.to.d ++ cells a.lease.d)
@[simp] theorem AnsR.d_eq (a : AnsR) : a.d = .agg ([.bool a.send, .bool a.keep] ++ cells a.reply.d ++ cells a.to.d ++ cells a.lease.d) := rfl
def ans0 : AnsR := ⟨false, false, msg0, ⟨0, 0, false⟩, le0⟩
structure TurnR where
 c : Cfg
 t : List LeaseR
 m : Msg
 k : List UInt8
 net : Int
 sub : Int
 s : Sub
 now : Int
def turnC (u : TurnR) : List DV := cells u.c.d ++ [.slice (u.t.map LeaseR.d)] ++ cells u.m.d ++ [.str u.k, .int .i64 u.net, .int .i64 u.sub, .int .i64 u.now]
def endS (now time : Int) : Int := min (now + time) 1125899906842624
def subOf (c : Cfg) (s : Sub) (kind a : Int) : Sub := if a ≠ 0 ∧ kind ≠ 6 then (match findC c a with | some x => x.s | none => s) else s
def sentR (u : TurnR) (kind a : Int) (keep : Bool) (l : LeaseR) : AnsR := ⟨true, keep, makeM u.c (subOf u.c u.s kind a) u.m kind a, destR u.m kind (if kind = 6 then 0 else a), l⟩
def wantU (u : TurnR) : Int := (numS u.m.opts 50).getD 0
def discoverS (u : TurnR) : AnsR := match chooseS u.c u.t u.net u.k (wantU u) u.now with | none => ans0 | some a => sentR u 2 a false le0
def giveL (u : TurnR) (a : Int) : LeaseR := ⟨a, 1, endS u.now (subOf u.c u.s 5 a).time, u.k⟩
def giveS (u : TurnR) (a : Int) : AnsR := if (setT u.t (giveL u a)).2 = 0 then sentR u 5 a true (giveL u a) else ans0
def nakS (u : TurnR) : AnsR := sentR u 6 0 false le0
def requestS (u : TurnR) : AnsR :=
 if classS u.m = 0 then ans0 else if inN u.c u.net (aboutS u.m) = false then nakS u
 else if classS u.m = 1 then (if mayS u.c u.t u.net u.k u.now (aboutS u.m) = true then giveS u (aboutS u.m) else nakS u)
 else if (getT u.t (aboutS u.m)).2 = false then ans0
 else if (getT u.t (aboutS u.m)).1.key = u.k ∧ (getT u.t (aboutS u.m)).1.state ≠ 3 ∧ mayS u.c u.t u.net u.k u.now (aboutS u.m) = true then giveS u (aboutS u.m) else nakS u
def mineS (u : TurnR) (a : Int) : Bool := (getT u.t a).2 && decide ((getT u.t a).1.key = u.k) && holdsL u.now (getT u.t a).1
def keptR (l : LeaseR) : AnsR := ⟨false, true, msg0, ⟨0, 0, false⟩, l⟩
def endedS (u : TurnR) (a state until_ : Int) : AnsR := if mineS u a = true then keptR ⟨a, state, until_, u.k⟩ else ans0
def declineS (u : TurnR) : AnsR := endedS u (wantU u) 3 (endS u.now u.c.probation)
def releaseS (u : TurnR) : AnsR := endedS u u.m.ci 2 u.now
def informS (u : TurnR) : AnsR := if u.m.ci = 0 then ans0 else sentR u 5 0 false le0
def turnS (u : TurnR) : AnsR :=
 if kindS u.m.opts = 1 then discoverS u else if kindS u.m.opts = 3 then requestS u else if kindS u.m.opts = 4 then declineS u else if kindS u.m.opts = 7 then releaseS u else if kindS u.m.opts = 8 then informS u else ans0
def fairH (c : Cfg) (t : List LeaseR) (m : Msg) (now : Int) : Bool := decide (checkS c = 0) && tableR t && decide (0 ≤ now ∧ now ≤ 1125899906842624) && decide (m.op = 1) && !foreignS m c.server
def handleS (c : Cfg) (t : List LeaseR) (m : Msg) (iface now : Int) : AnsR :=
 if fairH c t m now = true ∧ (keyS m).2 = 0 then (match subnetS c m iface with | some x => turnS ⟨c, t, m, (keyS m).1, x.net, x.sub, x.s, now⟩ | none => ans0) else ans0
theorem subsF_sub (k : Nat) : ∀ (i : Nat) (l : List Sub) (x : Spot), x ∈ subsF k i l → ∃ j, x.sub = i + j ∧ l[j]? = some x.s
 | i, [], x, h => by simp [subsF] at h
 | i, s :: l, x, h => by
   simp only [subsF, List.mem_cons] at h
   rcases h with rfl | h
   ·exact ⟨0, rfl, rfl⟩
   ·obtain ⟨j, h1, h2⟩ := subsF_sub k (i + 1) l x h
    exact ⟨j + 1, by omega, by simpa using h2⟩
theorem spotsF_sub : ∀ (k : Nat) (l : List Net) (x : Spot), x ∈ spotsF k l → ∃ n N, x.net = k + n ∧ l[n]? = some N ∧ N.subs[x.sub]? = some x.s
 | k, [], x, h => by simp [spotsF] at h
 | k, n :: l, x, h => by
   simp only [spotsF, List.mem_append] at h
   rcases h with h | h
   ·obtain ⟨j, h1, h2⟩ := subsF_sub k 0 n.subs x h
    have h3 := subsF_net k 0 n.subs x h
    exact ⟨0, n, by omega, rfl, by rw [h1, Nat.zero_add]; exact h2⟩
   ·obtain ⟨m, N, h1, h2, h3⟩ := spotsF_sub (k + 1) l x h
    exact ⟨m + 1, N, by omega, by simpa using h2, h3⟩
theorem spot_subC {c : Cfg} {x : Spot} (h : x ∈ rightC c) : checkS c = 0 ∧ subC c x.net x.sub = some x.s := by
 unfold rightC at h
 split at h
 ·rename_i hk
  obtain ⟨n, N, h1, h2, h3⟩ := spotsF_sub 0 c.nets x h
  refine ⟨hk, ?_⟩
  unfold subC
  rw [if_pos (by omega), Int.toNat_natCast, Int.toNat_natCast, h1, Nat.zero_add, h2]
  exact h3
 ·cases h
theorem find_subC {c : Cfg} {a : Int} {x : Spot} (h : findC c a = some x) : subC c x.net x.sub = some x.s := (spot_subC (List.mem_of_find?_eq_some h)).2
theorem find_has {c : Cfg} {a : Int} {x : Spot} (h : findC c a = some x) : hasA x.s.base x.s.bits a = true ∧ x ∈ rightC c := ⟨List.find?_some (p := fun x : Spot => hasA x.s.base x.s.bits a) h, List.mem_of_find?_eq_some h⟩
theorem find_right {c : Cfg} {a : Int} {x : Spot} (h : findC c a = some x) : rightA a = true := rightA_iff.2 (hasA_iff.1 (find_has h).1).2.1
theorem subnet_subC {c : Cfg} {m : Msg} {w : Int} {x : Spot} (h : subnetS c m w = some x) : checkS c = 0 ∧ subC c x.net x.sub = some x.s ∧ rightM m = true := by
 unfold subnetS at h
 split at h
 ·rename_i hm
  split at h
  ·exact ⟨(spot_subC (List.mem_of_find?_eq_some h)).1, find_subC h, hm⟩
  ·have := spot_subC (List.mem_of_find?_eq_some h)
   exact ⟨this.1, this.2, hm⟩
 ·cases h
theorem check_parts {c : Cfg} (h : checkS c = 0) : formS c = true ∧ placedS c = true ∧ unlikeS c = true := by
 unfold checkS at h
 split at h
 ·split at h
  ·split at h
   ·exact ⟨by assumption, by assumption, by assumption⟩
   ·cases h
  ·cases h
 ·cases h
theorem one_find {c : Cfg} {x : Spot} {a : Int} (hx : x ∈ rightC c) (h : hasA x.s.base x.s.bits a = true) : findC c a = some x := by
 have hk := (spot_subC hx).1
 obtain ⟨_, _, hu⟩ := check_parts hk
 have hr : rightC c = spotsS c := if_pos hk
 cases hf : findC c a with
 | none =>
   have := List.find?_eq_none.1 hf x hx
   exact absurd h this
 | some y =>
   obtain ⟨hy, hym⟩ := find_has hf
   rw [hr] at hx hym
   obtain ⟨i, hi, rfl⟩ := List.mem_iff_getElem.1 hx
   obtain ⟨j, hj, rfl⟩ := List.mem_iff_getElem.1 hym
   by_cases e : j = i
   ·subst e; rfl
   ·have h1 := (once_iff _ _ _).1 ((unlike_iff c).1 hu j hj i hi)
    have h2 : apartS (spotsS c)[j] (spotsS c)[i] = true := by
     rcases h1.1 with h3 | h3
     ·exact absurd (of_decide_eq_true h3) e
     ·exact h3
    exfalso
    simp only [apartS, Bool.not_eq_true', Bool.or_eq_false_iff] at h2
    have h3 := h2.1
    obtain ⟨f1, _, b1, b2⟩ := hasA_iff.1 hy
    obtain ⟨f2, _, c1, c2⟩ := hasA_iff.1 h
    simp only [meetA, f1, f2, Bool.true_and] at h3
    have h3 := of_decide_eq_false h3
    unfold lastA at h3
    omega
theorem inside_has {c : Cfg} {x : Spot} {a : Int} (hx : x ∈ rightC c) (h : insideS x.s a = true) : hasA x.s.base x.s.bits a = true := by
 obtain ⟨hk, hs⟩ := spot_subC hx
 obtain ⟨hf, _, _⟩ := check_parts hk
 have hr : rightC c = spotsS c := if_pos hk
 rw [hr] at hx
 simp only [formS, Bool.and_eq_true, List.all_eq_true] at hf
 have h1 := hf.2 x hx
 simp only [fairX, fairS, Bool.and_eq_true] at h1
 have hfa := h1.1.1.1.1.1.1.1
 obtain ⟨⟨b0, b1⟩, ⟨a0, a1⟩, hm⟩ := fairA_iff.1 hfa
 have h := of_decide_eq_true h
 unfold lastA at h
 refine hasA_iff.2 ⟨hfa, ⟨by omega, ?_⟩, by omega, by omega⟩
 have hd : ∀ e, e < 33 → (4294967296 : Int) % 2 ^ e = 0 := by decide
 have h2 := hd (32 - x.s.bits).toNat (by omega)
 have hp := sizeA_pos x.s.bits
 have h3 : (4294967296 : Int) % sizeA x.s.bits = 0 := h2
 generalize sizeA x.s.bits = z at *
 have e1 := Int.emod_add_mul_ediv x.s.base z
 have e2 := Int.emod_add_mul_ediv 4294967296 z
 rw [hm] at e1
 rw [h3] at e2
 have : x.s.base / z < 4294967296 / z := by
  by_cases hlt : x.s.base / z < 4294967296 / z
  ·exact hlt
  ·have : z * (4294967296 / z) ≤ z * (x.s.base / z) := Int.mul_le_mul_of_nonneg_left (by omega) (by omega)
   omega
 have h5 : z * (x.s.base / z + 1) ≤ z * (4294967296 / z) := Int.mul_le_mul_of_nonneg_left (by omega) (by omega)
 rw [Int.mul_add, Int.mul_one] at h5
 omega
theorem reach_in {c : Cfg} {n : Int} {k : List UInt8} {a : Int} (h : reachS c n k a = true) : ∃ x, findC c a = some x ∧ (x.net : Int) = n ∧ 0 < a := by
 have key : ∀ x ∈ rightC c, (x.net : Int) = n → insideS x.s a = true → ∃ x, findC c a = some x ∧ (x.net : Int) = n ∧ 0 < a := fun x hx hn hi => by
  have h1 := inside_has hx hi
  have h2 := (fairA_iff.1 (hasA_iff.1 h1).1).2.1.1
  have h3 := of_decide_eq_true hi
  exact ⟨x, one_find hx h1, hn, by omega⟩
 have hpl : ∀ x ∈ rightC c, placedX c.server x.s = true := by
  intro x hx
  have hk := (spot_subC hx).1
  have hr : rightC c = spotsS c := if_pos hk
  rw [hr] at hx
  exact List.all_eq_true.1 (check_parts hk).2.1 x hx
 simp only [reachS, Bool.or_eq_true, decide_eq_true_eq, Bool.and_eq_true] at h
 rcases h with h | ⟨h, _⟩
 ·unfold keptS at h
  simp only [Option.map_eq_some_iff] at h
  obtain ⟨r, hr, rfl⟩ := h
  have hm := List.mem_of_find?_eq_some hr
  rw [List.mem_flatMap] at hm
  obtain ⟨x, hx, hrx⟩ := hm
  unfold resN at hrx
  split at hrx
  ·rename_i hn
   have h1 := hpl x hx
   simp only [placedX, Bool.and_eq_true, List.all_eq_true] at h1
   have h2 := h1.1.2 r hrx
   simp only [resOkS, Bool.and_eq_true] at h2
   exact key x hx (of_decide_eq_true hn) h2.1
  ·cases hrx
 ·unfold inPoolS at h
  rw [List.any_eq_true] at h
  obtain ⟨p, hp, hin⟩ := h
  rw [List.mem_flatMap] at hp
  obtain ⟨x, hx, hpx⟩ := hp
  unfold poolN at hpx
  split at hpx
  ·rename_i hn
   have h1 := hpl x hx
   simp only [placedX, Bool.and_eq_true, List.all_eq_true] at h1
   have h2 := h1.1.1 p hpx
   simp only [poolOk, Bool.and_eq_true] at h2
   have h3 := of_decide_eq_true h2.1.1
   have h4 := of_decide_eq_true h2.1.2
   have h5 := of_decide_eq_true hin
   exact key x hx (of_decide_eq_true hn) (decide_eq_true (by omega))
  ·cases hpx
theorem may_in {c : Cfg} {t : List LeaseR} {n : Int} {k : List UInt8} {now a : Int} (h : mayS c t n k now a = true) : ∃ x, findC c a = some x ∧ (x.net : Int) = n ∧ 0 < a := by
 simp only [mayS, Bool.and_eq_true] at h
 exact reach_in h.1.1.2
theorem find_in {c : Cfg} {n a : Int} {x : Spot} (h : findC c a = some x) (hn : (x.net : Int) = n) : inN c n a = true := by simp [inN, h, hn]
theorem choose_may {c : Cfg} {t : List LeaseR} {n : Int} {k : List UInt8} {want now a : Int} (h : chooseS c t n k want now = some a) : mayS c t n k now a = true := by
 unfold chooseS at h
 split at h
 ·cases h
 ·unfold chooseF at h
  split at h
  ·exact List.find?_some h
  ·rw [Option.or_eq_some_iff] at h
   rcases h with h | ⟨_, h⟩
   ·exact List.find?_some h
   ·exact List.find?_some h
theorem oneS_six {c : Int} {d : List UInt8} (h : d.length ≤ 600) : (oneS c d).length ≤ d.length + 6 := by
 by_cases h1 : 255 < d.length
 ·rw [oneS_gt h1]
  by_cases h2 : 255 < (d.drop 255).length
  ·rw [oneS_gt h2]
   have h3 : ¬ 255 < ((d.drop 255).drop 255).length := by simp only [List.length_drop]; omega
   rw [oneS_le h3]
   simp only [List.length_cons, List.length_append, List.length_take, List.length_drop] at h2 ⊢
   omega
  ·rw [oneS_le h2]
   simp only [List.length_cons, List.length_append, List.length_take, List.length_drop] at h2 ⊢
   omega
 ·rw [oneS_le h1]
  simp only [List.length_cons]
  omega
def szO (l : List Opt) : Nat := (l.map fun o => o.data.length + 6).sum
theorem flatB_six : ∀ {l : List Opt}, (∀ o ∈ l, o.data.length ≤ 600) → (l.flatMap optB1).length ≤ szO l
 | [], _ => by simp [szO]
 | o :: l, h => by
   have h1 := flatB_six fun x hx => h x (List.mem_cons_of_mem _ hx)
   have h2 := oneS_six (c := o.code) (h o List.mem_cons_self)
   simp only [szO, List.flatMap_cons, List.length_append, List.map_cons, List.sum_cons, optB1] at h1 ⊢
   omega
theorem szO_app (l k : List Opt) : szO (l ++ k) = szO l + szO k := by simp [szO]
theorem make_opts {c : Cfg} {s : Sub} {m : Msg} {kind yi : Int} (hm : rightM m = true) :
  ((optB c s m kind yi ++ echoL m 61 ++ echoL m 82).map Opt.code).Sublist [53, 54, 51, 1, 3, 61, 82] ∧ (∀ o ∈ optB c s m kind yi ++ echoL m 61 ++ echoL m 82, o.data.length ≤ 600) ∧ szO (optB c s m kind yi ++ echoL m 61 ++ echoL m 82) ≤ 1259 := by
 have e1 : ∀ c : Int, ((echoL m c).map Opt.code).Sublist [c] ∧ (∀ o ∈ echoL m c, o.data.length ≤ 600) ∧ szO (echoL m c) ≤ 606 := by
  intro c
  have hd := @echoL_data m hm c
  refine ⟨?_, hd, ?_⟩
  ·unfold echoL
   split <;> simp
  ·unfold echoL at hd ⊢
   split
   ·rename_i b hb
    rw [hb] at hd
    have := hd _ (List.mem_singleton.2 rfl)
    simp only [szO, List.map_cons, List.map_nil, List.sum_cons, List.sum_nil] at this ⊢
    omega
   ·simp [szO]
 have e2 : ((optB c s m kind yi).map Opt.code).Sublist [53, 54, 51, 1, 3] ∧ (∀ o ∈ optB c s m kind yi, o.data.length ≤ 600) ∧ szO (optB c s m kind yi) ≤ 47 := by
  unfold optB optM optT optK optR
  by_cases hk : kind = 6 <;> by_cases hy : yi = 0 <;> by_cases ha : askedS m 1 = true <;> by_cases hr : s.router = 0 <;> by_cases hb : askedS m 3 = true <;> simp [hk, hy, ha, hr, hb, szO]
 obtain ⟨a1, a2, a3⟩ := e1 61
 obtain ⟨b1, b2, b3⟩ := e1 82
 obtain ⟨c1, c2, c3⟩ := e2
 refine ⟨?_, ?_, ?_⟩
 ·rw [List.map_append, List.map_append]
  exact (c1.append a1).append b1
 ·intro o ho
  rw [List.mem_append, List.mem_append] at ho
  rcases ho with (ho | ho) | ho
  ·exact c2 o ho
  ·exact a2 o ho
  ·exact b2 o ho
 ·rw [szO_app, szO_app]
  omega
theorem make_right {c : Cfg} {net sub : Int} {m : Msg} {kind yi : Int} {s : Sub} (hf : fairR c net sub m kind yi = true) (hs : subC c net sub = some s) :
  rightM (makeM c s m kind yi) = true ∧ (hdS (makeM c s m kind yi)).length ≤ 1500 := by
 obtain ⟨hck, n, k, hn, hk, rfl, rfl, hs2, hr, hyi, hkd⟩ := fairR_parts hf
 have hN := rightM_n hr
 obtain ⟨o1, o2, o3⟩ := make_opts (c := c) (s := s) (kind := kind) (yi := yi) hr
 have hyi' := rightA_iff.1 hyi
 have hfl : 0 ≤ flagR m kind ∧ flagR m kind ≤ 65535 := by
  have := hN.flags
  unfold flagR
  split <;> omega
 have hci : rightA (if kind = 5 then m.ci else 0) = true := by
  have := hN.ci
  split <;> exact rightA_iff.2 (by omega)
 have hy2 : rightA (if kind = 6 then 0 else yi) = true := by
  split <;> exact rightA_iff.2 (by omega)
 have hcodes : ∀ o ∈ optB c s m kind yi ++ echoL m 61 ++ echoL m 82, o.code ∈ ([53, 54, 51, 1, 3, 61, 82] : List Int) := fun o ho => o1.subset (List.mem_map_of_mem ho)
 have hro : rightO (makeM c s m kind yi).opts = true := by
  simp only [rightO, makeM, Bool.and_eq_true, decide_eq_true_eq, List.all_eq_true, okO]
  refine ⟨⟨decide_eq_true ?_, fun o ho => ⟨?_, o2 o ho⟩⟩, decide_eq_true (o1.nodup (by decide))⟩
  ·have := o1.length_le
   rw [List.length_map] at this
   simp only [List.length_cons, List.length_nil] at this
   omega
  ·have := hcodes o ho
   simp only [List.mem_cons, List.not_mem_nil, or_false] at this
   rcases this with h | h | h | h | h | h | h <;> rw [h] <;> decide
 have h52 : (findS (makeM c s m kind yi).opts 52).isNone = true := by
  rw [has_find]
  have : hasN (makeM c s m kind yi).opts 52 = 0 := by
   have : ((makeM c s m kind yi).opts.countP fun o => decide (o.code = 52)) = 0 := by
    rw [List.countP_eq_zero]
    intro o ho
    have := hcodes o ho
    simp only [List.mem_cons, List.not_mem_nil, or_false] at this
    simp only [decide_eq_true_eq]
    omega
   unfold hasN
   omega
  simp [this]
 have hxi := rightA_iff.2 hN.xid
 have hgi := rightA_iff.2 hN.gi
 have hz : rightA 0 = true := by decide
 constructor
 ·unfold rightM
  rw [hro, h52]
  simp only [Bool.and_eq_true]
  exact ⟨⟨⟨⟨⟨⟨⟨⟨⟨⟨⟨⟨⟨rfl, decide_eq_true hN.ht⟩, decide_eq_true hN.hl⟩, rfl⟩, hxi⟩, rfl⟩, decide_eq_true hfl⟩, hci⟩, hy2⟩, hz⟩, hgi⟩, decide_eq_true hN.ch⟩, trivial⟩, trivial⟩
 ·have h1 := flatB_six o2
  have hch := hN.ch
  unfold hdS writeO
  simp only [makeM, List.flatMap_cons, List.flatMap_nil, List.length_append, putI_len, List.length_cons, List.length_nil, List.length_replicate] at h1 ⊢
  omega
theorem make_sized {c : Cfg} {s : Sub} {m : Msg} {kind yi : Int} (h : rightM (makeM c s m kind yi) = true) : sizedM (makeM c s m kind yi) := by
 have hN := rightM_n h
 have := right_sz hN.ro
 exact ⟨by have := hN.ch; omega, by omega, fun o ho => by have := this.2 o ho; omega⟩
theorem msg0_sized : sizedM msg0 := ⟨by simp [msg0], by simp [msg0, sized]⟩
structure TOk (u : TurnR) : Prop where
 hc : sizedC u.c
 ht : TSz u.t
 hm : sizedM u.m
 chk : checkS u.c = 0
 tab : tableR u.t = true
 rm : rightM u.m = true
 sp : subC u.c u.net u.sub = some u.s
 kl : u.k.length ≤ 1000000
 now : 0 ≤ u.now ∧ u.now ≤ 1125899906842624
theorem TOk.fair {u : TurnR} (h : TOk u) {kind a : Int} (hk : kindOk kind = true) (ha : rightA a = true) {net sub : Int} {s : Sub} (hs : subC u.c net sub = some s) : fairR u.c net sub u.m kind a = true := by
 unfold fairR
 rw [h.chk, hs, h.rm, hk, ha]
 rfl
theorem keyS_len (m : Msg) (hm : sizedM m) : (keyS m).1.length ≤ 100001 := by
 unfold keyS
 have hdl : ((findS m.opts 61).getD []).length ≤ 100000 := by
  cases h : findS m.opts 61 with
  | none => simp
  | some d => exact findS_sized hm.2 h
 generalize (findS m.opts 61).getD [] = d at *
 split
 ·simp
 ·split
  ·simp
  ·split
   ·simp; omega
   ·split
    ·simp
    ·rename_i h1 _ _ _
     have hN := rightM_n (by simpa using h1)
     have := hN.ch
     simp only [List.length_cons, List.length_take]
     omega
end Go.Proofs.YtnkmlhlegndlhaaGreat
