/- What becomes of a message: the plain laws. -/
import Derived.Test.YtnkmlhlegndlhaaGreatEngP
namespace Go.Proofs.YtnkmlhlegndlhaaGreat
open BoEng Go
set_option maxRecDepth 100000
set_option linter.unusedSimpArgs false
set_option linter.unusedVariables false
theorem findS_nil (c : Int) : findS [] c = none := rfl
theorem findS_cons (o : Opt) (l : List Opt) (c : Int) : findS (o :: l) c = if o.code = c then some o.data else findS l c := by
 unfold findS
 by_cases h : o.code = c <;> simp [h]
theorem findS_app (l k : List Opt) (c : Int) : findS (l ++ k) c = (findS l c).or (findS k c) := by
 induction l with
 | nil => simp [findS_nil]
 | cons o l ih =>
   rw [List.cons_append, findS_cons, findS_cons, ih]
   split <;> simp
theorem findS_drop (l : List Opt) (c c' : Int) : findS (l.flatMap (dropS c)) c' = if c' = c then none else findS l c' := by
 induction l with
 | nil => simp [findS_nil]
 | cons o l ih =>
   rw [List.flatMap_cons, findS_app, ih, findS_cons]
   unfold dropS
   by_cases h1 : o.code = c
   ·by_cases h2 : c' = c
    ·simp [h1, h2, findS_nil]
    ·have : ¬ c = c' := fun e => h2 e.symm
     simp [h1, h2, this, findS_nil]
   ·by_cases h2 : c' = c
    ·subst h2
     simp [h1, findS_cons, findS_nil]
    ·by_cases h3 : o.code = c'
     ·simp [h1, h2, h3, findS_cons]
     ·simp [h1, h2, h3, findS_cons, findS_nil]
theorem findS_keep (l : List Opt) (c : Int) (b : List UInt8) (c' : Int) : findS (keepS l c b) c' = if c' = c then some b else findS l c' := by
 unfold keepS
 rw [findS_app, findS_drop, findS_cons, findS_nil]
 by_cases h : c' = c
 ·simp [h]
 ·have : ¬ c = c' := fun e => h e.symm
  simp [h, this]
theorem drop_sub (c : Int) (l : List Opt) : (l.flatMap (dropS c)).Sublist l ∧ ∀ o ∈ l.flatMap (dropS c), o.code ≠ c := by
 induction l with
 | nil => simp
 | cons o l ih =>
   rw [List.flatMap_cons]
   unfold dropS
   split
   ·exact ⟨(List.nil_append _).symm ▸ ih.1.cons _, by rw [List.nil_append]; exact ih.2⟩
   ·rename_i h
    refine ⟨ih.1.cons_cons _, fun x hx => ?_⟩
    rcases List.mem_append.1 hx with hx | hx
    ·rw [List.mem_singleton.1 hx]; exact h
    ·exact ih.2 x hx
theorem keep_right {l : List Opt} {c : Int} {b : List UInt8} (h : rightO l = true) (hl : l.length ≤ 59) (hc : 1 ≤ c ∧ c ≤ 254) (hb : b.length ≤ 600) : rightO (keepS l c b) = true ∧ (keepS l c b).length ≤ l.length + 1 := by
 obtain ⟨h1, h2⟩ := drop_sub c l
 simp only [rightO, Bool.and_eq_true, List.all_eq_true] at h
 obtain ⟨⟨h3, h4⟩, h5⟩ := h
 have h5 := of_decide_eq_true h5
 have h6 := h1.length_le
 have hlen : (keepS l c b).length ≤ l.length + 1 := by
  unfold keepS
  rw [List.length_append]
  simp only [List.length_cons, List.length_nil]
  omega
 refine ⟨?_, hlen⟩
 simp only [rightO, Bool.and_eq_true, List.all_eq_true]
 refine ⟨⟨decide_eq_true (by omega), fun o ho => ?_⟩, decide_eq_true ?_⟩
 ·unfold keepS at ho
  rcases List.mem_append.1 ho with ho | ho
  ·exact h4 o (h1.subset ho)
  ·rw [List.mem_singleton.1 ho]
   simp only [okO, Bool.and_eq_true]
   exact ⟨decide_eq_true hc, decide_eq_true hb⟩
 ·unfold keepS
  rw [List.map_append, List.nodup_append]
  refine ⟨(h1.map _).nodup h5, by simp, ?_⟩
  intro a ha b' hb'
  simp only [List.map_cons, List.map_nil, List.mem_singleton] at hb'
  obtain ⟨o, ho, rfl⟩ := List.mem_map.1 ha
  rw [hb']
  exact h2 o ho
theorem make_find {c : Cfg} {s : Sub} {m : Msg} {kind yi : Int} : findS (makeM c s m kind yi).opts 53 = some (putI kind 1) ∧ (kind ≠ 6 → yi ≠ 0 → findS (makeM c s m kind yi).opts 51 = some (putI s.time 4)) := by
 constructor
 ·simp [makeM, optB, findS_cons]
 ·intro hk hy
  simp [makeM, optB, optM, optT, hk, hy, findS_cons]
theorem kind_make {c : Cfg} {s : Sub} {m : Msg} {kind yi : Int} (hk : kindOk kind = true) : kindS (makeM c s m kind yi).opts = kind := by
 unfold kindS
 rw [make_find.1]
 rcases kind_iff.1 hk with rfl | rfl | rfl <;> decide
theorem num_putI {l : List Opt} {c v : Int} (h : findS l c = some (putI v 4)) (h0 : 0 ≤ v) (h1 : v ≤ 4294967295) : numS l c = some v := by
 unfold numS
 rw [h]
 simp only [putI_len, if_true]
 rw [putI_val 4 v h0 (by omega)]
structure OutH (c : Cfg) (t : List LeaseR) (m : Msg) (iface now : Int) (u : TurnR) (x : Spot) : Prop where
 fair : fairH c t m now = true
 key : (keyS m).2 = 0
 sub : subnetS c m iface = some x
 u : u = ⟨c, t, m, (keyS m).1, x.net, x.sub, x.s, now⟩
theorem handle_eq {c : Cfg} {t : List LeaseR} {m : Msg} {iface now : Int} : (∃ u x, OutH c t m iface now u x ∧ handleS c t m iface now = turnS u) ∨ handleS c t m iface now = ans0 := by
 unfold handleS
 split
 ·rename_i h
  cases hs : subnetS c m iface with
  | none => exact .inr rfl
  | some x => exact .inl ⟨_, x, ⟨h.1, h.2, hs, rfl⟩, rfl⟩
 ·exact .inr rfl
theorem OutH.parts {c : Cfg} {t : List LeaseR} {m : Msg} {iface now : Int} {u : TurnR} {x : Spot} (h : OutH c t m iface now u x) : checkS c = 0 ∧ tableR t = true ∧ (0 ≤ now ∧ now ≤ 1125899906842624) ∧ m.op = 1 ∧ foreignS m c.server = false ∧ rightM m = true := by
 have h1 := h.fair
 simp only [fairH, Bool.and_eq_true, decide_eq_true_eq, Bool.not_eq_true'] at h1
 exact ⟨h1.1.1.1.1, h1.1.1.1.2, h1.1.1.2, h1.1.2, h1.2, (subnet_subC h.sub).2.2⟩
inductive OutU (u : TurnR) : AnsR → Prop
 | none : OutU u ans0
 | offer (a : Int) (hc : chooseS u.c u.t u.net u.k (wantU u) u.now = some a) (hk : kindS u.m.opts = 1) : OutU u (sentR u 2 a false le0)
 | give (a : Int) (hm : mayS u.c u.t u.net u.k u.now a = true) (hs : (setT u.t (giveL u a)).2 = 0) (hk : kindS u.m.opts = 3) : OutU u (sentR u 5 a true (giveL u a))
 | nak (hk : kindS u.m.opts = 3) : OutU u (nakS u)
 | decline (hm : mineS u (wantU u) = true) : OutU u (keptR ⟨wantU u, 3, endS u.now u.c.probation, u.k⟩)
 | release (hm : mineS u u.m.ci = true) : OutU u (keptR ⟨u.m.ci, 2, u.now, u.k⟩)
 | inform (hk : kindS u.m.opts = 8) (hc : u.m.ci ≠ 0) : OutU u (sentR u 5 0 false le0)
theorem turn_out (u : TurnR) : OutU u (turnS u) := by
 have hgive : ∀ a, mayS u.c u.t u.net u.k u.now a = true → kindS u.m.opts = 3 → OutU u (giveS u a) := by
  intro a hm hk
  unfold giveS
  split
  ·exact .give a hm (by assumption) hk
  ·exact .none
 unfold turnS
 split
 ·rename_i h
  unfold discoverS
  split
  ·exact .none
  ·exact .offer _ (by assumption) h
 split
 ·rename_i h
  unfold requestS
  split
  ·exact .none
  split
  ·exact .nak h
  split
  ·split
   ·exact hgive _ (by assumption) h
   ·exact .nak h
  split
  ·exact .none
  split
  ·rename_i h2
   exact hgive _ h2.2.2 h
  ·exact .nak h
 split
 ·unfold declineS endedS
  split
  ·exact .decline (by assumption)
  ·exact .none
 split
 ·unfold releaseS endedS
  split
  ·exact .release (by assumption)
  ·exact .none
 split
 ·rename_i h
  unfold informS
  split
  ·exact .none
  ·exact .inform h (by assumption)
 ·exact .none
theorem may_fair {c : Cfg} {t : List LeaseR} {n : Int} {k : List UInt8} {now a : Int} (h : mayS c t n k now a = true) : fairN c t n k = true := by
 simp only [mayS, Bool.and_eq_true] at h
 exact h.1.1.1
theorem give_time {u : TurnR} {a : Int} (hm : mayS u.c u.t u.net u.k u.now a = true) : ∃ y, findC u.c a = some y ∧ (y.net : Int) = u.net ∧ 0 < a ∧ subOf u.c u.s 5 a = y.s ∧ (1 ≤ y.s.time ∧ y.s.time ≤ 2147483648) := by
 obtain ⟨y, hy, hn, h0⟩ := may_in hm
 have h1 : a ≠ 0 := by omega
 refine ⟨y, hy, hn, h0, by simp [subOf, hy, h1], ?_⟩
 have h := (find_has hy).2
 have hk := (spot_subC h).1
 have hr : rightC u.c = spotsS u.c := if_pos hk
 rw [hr] at h
 obtain ⟨hf, _, _⟩ := check_parts hk
 simp only [formS, Bool.and_eq_true, List.all_eq_true] at hf
 have h1 := hf.2 y h
 simp only [fairX, fairS, Bool.and_eq_true] at h1
 exact of_decide_eq_true h1.1.1.2
def givesS (c : Cfg) (t : List LeaseR) (m : Msg) (iface now : Int) : Bool :=
 if (handleS c t m iface now).send = true ∧ (handleS c t m iface now).reply.yi ≠ 0 then
  decide ((keyS m).2 = 0) && (match subnetS c m iface with | some x => inN c x.net (handleS c t m iface now).reply.yi && mayS c t x.net (keyS m).1 now (handleS c t m iface now).reply.yi | none => false)
 else true
theorem gives_true (c : Cfg) (t : List LeaseR) (m : Msg) (iface now : Int) : givesS c t m iface now = true := by
 unfold givesS
 split
 ·rename_i h
  rcases handle_eq (c := c) (t := t) (m := m) (iface := iface) (now := now) with ⟨u, x, hu, he⟩ | he
  ·rw [he] at h ⊢
   rw [hu.sub, decide_eq_true hu.key]
   have e := hu.u
   have hout := turn_out u
   have key : ∀ a, mayS u.c u.t u.net u.k u.now a = true → (inN c x.net a && mayS c t x.net (keyS m).1 now a) = true := by
    intro a hm
    obtain ⟨y, hy, hn, _⟩ := may_in hm
    subst e
    rw [find_in hy hn, hm]
    rfl
   generalize turnS u = r at *
   cases hout with
   | none => exact absurd rfl h.2
   | offer a hc hk => exact key a (choose_may hc)
   | give a hm hs hk => exact key a hm
   | nak hk => exact absurd rfl h.2
   | decline hm => cases h.1
   | release hm => cases h.1
   | inform hk hc => exact absurd rfl h.2
  ·rw [he] at h
   cases h.1
 ·rfl
def keepsS (c : Cfg) (t : List LeaseR) (m : Msg) (iface now : Int) : Bool :=
 if (handleS c t m iface now).send = true ∧ kindS (handleS c t m iface now).reply.opts = 5 ∧ (handleS c t m iface now).reply.yi ≠ 0 then
  (handleS c t m iface now).keep && (match numS (handleS c t m iface now).reply.opts 51 with | some n => decide ((handleS c t m iface now).lease = ⟨(handleS c t m iface now).reply.yi, 1, endS now n, (keyS m).1⟩) && decide (0 ≤ n ∧ n ≤ 4294967295) && decide (0 ≤ now ∧ now ≤ 1125899906842624) | none => false)
 else !(handleS c t m iface now).send || !(handleS c t m iface now).keep
theorem keeps_true (c : Cfg) (t : List LeaseR) (m : Msg) (iface now : Int) : keepsS c t m iface now = true := by
 unfold keepsS
 rcases handle_eq (c := c) (t := t) (m := m) (iface := iface) (now := now) with ⟨u, x, hu, he⟩ | he
 ·rw [he]
  have hout := turn_out u
  have e := hu.u
  have hnow := hu.parts.2.2.1
  generalize turnS u = r at *
  cases hout with
  | none => rfl
  | offer a hc hk =>
    rw [if_neg]
    ·rfl
    ·rintro ⟨_, h, _⟩
     have := kind_make (c := u.c) (s := subOf u.c u.s 2 a) (m := u.m) (kind := 2) (yi := a) rfl
     simp only [sentR] at h
     omega
  | give a hm hs hk =>
    obtain ⟨y, hy, hn, h0, hsu, ht⟩ := give_time hm
    have hk5 := kind_make (c := u.c) (s := subOf u.c u.s 5 a) (m := u.m) (kind := 5) (yi := a) rfl
    have hyi : (sentR u 5 a true (giveL u a)).reply.yi = a := rfl
    have h51 : numS (sentR u 5 a true (giveL u a)).reply.opts 51 = some y.s.time := by
     refine num_putI (v := y.s.time) ?_ (by omega) (by omega)
     have := (make_find (c := u.c) (s := subOf u.c u.s 5 a) (m := u.m) (kind := 5) (yi := a)).2 (by decide) (by omega)
     rw [hsu] at this
     simp only [sentR, hsu]
     exact this
    rw [if_pos ⟨rfl, hk5, by rw [hyi]; omega⟩, h51, hyi]
    have hl : (sentR u 5 a true (giveL u a)).lease = ⟨a, 1, endS now y.s.time, (keyS m).1⟩ := by
     simp only [sentR, giveL, hsu]
     rw [e]
    dsimp only
    rw [hl, decide_eq_true rfl, decide_eq_true hnow, decide_eq_true (show 0 ≤ y.s.time ∧ y.s.time ≤ 4294967295 by omega)]
    rfl
  | nak hk =>
    rw [if_neg]
    ·rfl
    ·rintro ⟨_, _, h⟩
     exact h rfl
  | decline hm => rfl
  | release hm => rfl
  | inform hk hc =>
    rw [if_neg]
    ·rfl
    ·rintro ⟨_, _, h⟩
     exact h rfl
 ·rw [he]; rfl
def naksS (c : Cfg) (t : List LeaseR) (m : Msg) (iface now : Int) : Bool :=
 match subnetS c m iface with
 | some x =>
   if fairH c t m now = true ∧ (keyS m).2 = 0 then
    (if (handleS c t m iface now).keep = true ∧ kindS m.opts = 8 then false
     else if kindS m.opts = 8 ∧ m.ci ≠ 0 then (handleS c t m iface now).send && decide ((handleS c t m iface now).reply.yi = 0) && decide (kindS (handleS c t m iface now).reply.opts = 5)
     else if classS m = 0 ∨ inN c x.net (aboutS m) = true then true
     else !(handleS c t m iface now).keep && (handleS c t m iface now).send && decide (kindS (handleS c t m iface now).reply.opts = 6) && decide ((handleS c t m iface now).reply.yi = 0))
   else true
 | none => true
theorem class_kind {m : Msg} (h : classS m ≠ 0) : kindS m.opts = 3 := by
 unfold classS at h
 split at h
 ·assumption
 ·exact absurd rfl h
theorem naks_true (c : Cfg) (t : List LeaseR) (m : Msg) (iface now : Int) : naksS c t m iface now = true := by
 unfold naksS
 cases hs : subnetS c m iface with
 | none => rfl
 | some x =>
   dsimp only
   split
   ·rename_i hf
    obtain ⟨u, hu⟩ : ∃ u : TurnR, u = ⟨c, t, m, (keyS m).1, x.net, x.sub, x.s, now⟩ := ⟨_, rfl⟩
    have he : handleS c t m iface now = turnS u := by
     unfold handleS
     rw [if_pos hf, hs, hu]
    rw [he]
    have hum : u.m = m := by rw [hu]
    have h8 : kindS m.opts = 8 → turnS u = informS u := by
     intro h
     unfold turnS
     rw [hum, h]
     rfl
    have h3 : kindS m.opts = 3 → turnS u = requestS u := by
     intro h
     unfold turnS
     rw [hum, h]
     rfl
    split
    ·rename_i h
     rw [h8 h.2] at h
     unfold informS at h
     split at h <;> cases h.1
    ·split
     ·rename_i h
      have hk := kind_make (c := u.c) (s := subOf u.c u.s 5 0) (m := u.m) (kind := 5) (yi := 0) rfl
      rw [h8 h.1]
      unfold informS
      rw [hum, if_neg h.2]
      simp only [sentR, hk]
      simp [makeM]
     ·split
      ·rfl
      ·rename_i h
       have hc0 : classS m ≠ 0 := fun h' => h (.inl h')
       have hin : inN c x.net (aboutS m) = false := by
        cases hi : inN c x.net (aboutS m) with
        | true => exact absurd (.inr hi) h
        | false => rfl
       have hk := kind_make (c := u.c) (s := subOf u.c u.s 6 0) (m := u.m) (kind := 6) (yi := 0) rfl
       have hr : requestS u = nakS u := by
        unfold requestS
        rw [hum, if_neg hc0, if_pos (by rw [hu]; exact hin)]
       rw [h3 (class_kind hc0), hr]
       unfold nakS
       simp only [sentR, hk]
       simp [makeM]
   ·rfl
theorem get_of_mem {t : List LeaseR} (ht : tableR t = true) {b : LeaseR} (hb : b ∈ t) : getT t b.addr = (b, true) := by
 obtain ⟨_, _, hsrt⟩ := tab_iff.1 ht
 obtain ⟨m, hm, rfl⟩ := List.mem_iff_getElem.1 hb
 obtain ⟨h1, h2⟩ := srt_pos hsrt hm rfl
 unfold getT
 rw [goodT_id ht, if_pos h2, h1, List.getD_eq_getElem?_getD, List.getElem?_eq_getElem hm, Option.getD_some]
theorem set_mem {t : List LeaseR} (ht : tableR t = true) {l : LeaseR} (h : (setT t l).2 = 0) : tableR (setT t l).1 = true ∧ rightL l = true ∧ ∀ b, b ∈ (setT t l).1 ↔ b = l ∨ (b ∈ t ∧ b.addr ≠ l.addr) := by
 obtain ⟨h1, h2, h3⟩ := setT_tab h
 rw [goodT_id ht] at h3
 obtain ⟨_, _, hsrt⟩ := tab_iff.1 ht
 refine ⟨h1, h2, ?_⟩
 rw [h3]
 exact (insL_spec hsrt l).2
theorem may_set {c : Cfg} {t : List LeaseR} {n : Int} {k : List UInt8} {now a e : Int} (h : mayS c t n k now a = true) (hs : (setT t ⟨a, 1, e, k⟩).2 = 0) : mayS c (setT t ⟨a, 1, e, k⟩).1 n k now a = true := by
 have hfn := may_fair h
 obtain ⟨f1, f2, f3, f4⟩ := fair_parts hfn
 obtain ⟨s1, s2, s3⟩ := set_mem f2 hs
 simp only [mayS, Bool.and_eq_true, Bool.not_eq_true'] at h ⊢
 obtain ⟨⟨⟨_, h2⟩, h3⟩, h4⟩ := h
 refine ⟨⟨⟨?_, h2⟩, ?_⟩, ?_⟩
 ·simp [fairN, f1, s1, f3, f4]
 ·unfold otherS at h3 ⊢
  rw [List.any_eq_false] at h3 ⊢
  intro l hl
  rcases (s3 l).1 hl with rfl | ⟨hm, _⟩
  ·simp [badL]
  ·exact h3 l hm
 ·have hg := get_of_mem s1 ((s3 _).2 (.inl rfl))
  dsimp only at hg
  unfold freeT
  rw [hg]
  simp [freeL, restsL]
theorem set_there {t : List LeaseR} {l : LeaseR} (ht : tableR t = true) (hr : rightL l = true) (hg : (getT t l.addr).2 = true) : (setT t l).2 = 0 := by
 have hi : isA t l.addr = true := by
  unfold getT at hg
  rw [goodT_id ht] at hg
  split at hg
  ·assumption
  ·cases hg
 unfold setT
 rw [goodT_id ht, hr, hi]
 simp
def fitsS (c : Cfg) (t : List LeaseR) (m : Msg) (iface now : Int) : Bool :=
 if (handleS c t m iface now).keep = false then decide ((handleS c t m iface now).lease = le0)
 else if (setT t (handleS c t m iface now).lease).2 ≠ 0 ∨ rightL (handleS c t m iface now).lease = false ∨ tableR (setT t (handleS c t m iface now).lease).1 = false then false
 else if (handleS c t m iface now).lease.state ≠ 1 then (decide ((handleS c t m iface now).lease.state = 2) != restsL now (handleS c t m iface now).lease)
 else (match findC c (handleS c t m iface now).lease.addr with
  | some x => mayS c (setT t (handleS c t m iface now).lease).1 x.net (handleS c t m iface now).lease.key now (handleS c t m iface now).lease.addr
  | none => false) && (decide (now < (handleS c t m iface now).lease.expiry) || decide (now = 1125899906842624))
theorem prob_rng2 {c : Cfg} (hk : checkS c = 0) : 1 ≤ c.probation ∧ c.probation ≤ 2147483648 := by
 obtain ⟨hf, _, _⟩ := check_parts hk
 simp only [formS, Bool.and_eq_true] at hf
 exact of_decide_eq_true hf.1.1.1.2
theorem mine_parts {u : TurnR} {a : Int} (h : mineS u a = true) : (getT u.t a).2 = true ∧ (getT u.t a).1.addr = a ∧ (getT u.t a).1.key = u.k ∧ (getT u.t a).1.state = 1 ∧ u.now < (getT u.t a).1.expiry ∧ rightL (getT u.t a).1 = true := by
 simp only [mineS, Bool.and_eq_true, decide_eq_true_eq, holdsL] at h
 obtain ⟨h1, h2⟩ := getT_spec h.1.1
 exact ⟨h.1.1, h2, h.1.2, h.2.1, h.2.2, good_rightL h1⟩
theorem fits_true (c : Cfg) (t : List LeaseR) (m : Msg) (iface now : Int) : fitsS c t m iface now = true := by
 unfold fitsS
 rcases handle_eq (c := c) (t := t) (m := m) (iface := iface) (now := now) with ⟨u, x, hu, he⟩ | he
 ·rw [he]
  have hout := turn_out u
  obtain ⟨hck, htb, hnow, _⟩ := hu.parts
  have e := hu.u
  have huc : u.c = c := by rw [e]
  have hut : u.t = t := by rw [e]
  have huw : u.now = now := by rw [e]
  have hun : u.net = x.net := by rw [e]
  generalize turnS u = r at *
  have ended : ∀ a s un, mineS u a = true → (s = 2 ∨ s = 3) → (0 ≤ un ∧ un ≤ 1125899906842624) → (setT t ⟨a, s, un, u.k⟩).2 = 0 ∧ rightL ⟨a, s, un, u.k⟩ = true ∧ tableR (setT t ⟨a, s, un, u.k⟩).1 = true := by
   intro a s un hm hs hun2
   obtain ⟨g1, g2, g3, g4, g5, g6⟩ := mine_parts hm
   rw [hut] at g1 g2 g3 g6
   obtain ⟨r1, r2, r3, r4⟩ := right_rng g6
   have hr : rightL ⟨a, s, un, u.k⟩ = true := by
    have hra : rightA a = true := rightA_iff.2 (by rw [← g2]; exact r1)
    have : keyR u.k = true := by rw [← g3]; exact r4
    simp only [rightL, hra, this, Bool.and_eq_true, Bool.and_true, Bool.true_and]
    exact ⟨decide_eq_true (by omega), decide_eq_true hun2⟩
   have hs0 := set_there htb hr g1
   exact ⟨hs0, hr, (set_mem htb hs0).1⟩
  cases hout with
  | none => rfl
  | offer a hc hk => rfl
  | give a hm hs hk =>
    obtain ⟨y, hy, hn, h0, hsu, ht⟩ := give_time hm
    have hgl : giveL u a = ⟨a, 1, endS now y.s.time, u.k⟩ := by
     unfold giveL
     rw [hsu, huw]
    have hl : (sentR u 5 a true (giveL u a)).lease = ⟨a, 1, endS now y.s.time, u.k⟩ := hgl
    have hkp : (sentR u 5 a true (giveL u a)).keep = true := rfl
    rw [hgl, hut] at hs
    obtain ⟨s1, s2, _⟩ := set_mem htb hs
    have hm' : mayS c t u.net u.k now a = true := by rw [← huc, ← hut, ← huw]; exact hm
    have hms := may_set hm' hs
    rw [hkp, hl, if_neg (by simp), if_neg (by simp [hs, s2, s1]), if_neg (by simp)]
    dsimp only
    rw [← huc, hy]
    dsimp only
    rw [hn, huc, hms, Bool.true_and, Bool.or_eq_true, decide_eq_true_eq, decide_eq_true_eq]
    unfold endS
    omega
  | nak hk => rfl
  | decline hm =>
    have hp := prob_rng2 hck
    have hun2 : 0 ≤ endS u.now u.c.probation ∧ endS u.now u.c.probation ≤ 1125899906842624 := by
     rw [huc, huw]
     unfold endS
     omega
    obtain ⟨h1, h2, h3⟩ := ended _ 3 _ hm (.inr rfl) hun2
    obtain ⟨_, _, _, _, g5, g6⟩ := mine_parts hm
    have := (right_rng g6).2.2.1
    rw [if_neg (by simp [keptR]), if_neg (by simp [keptR, h1, h2, h3]), if_pos (by simp [keptR])]
    have : now < endS u.now u.c.probation := by
     rw [huc, huw]
     unfold endS
     rw [huw] at g5
     omega
    simp [keptR, restsL, this]
  | release hm =>
    obtain ⟨h1, h2, h3⟩ := ended u.m.ci 2 u.now hm (.inl rfl) (by rw [huw]; exact hnow)
    rw [if_neg (by simp [keptR]), if_neg (by simp [keptR, h1, h2, h3]), if_pos (by simp [keptR])]
    simp [keptR, restsL]
  | inform hk hc => rfl
 ·rw [he]; rfl
def matchM (c : Cfg) (m : Msg) (yi : Int) : Msg := { m with opts := keepS (keepS (keepS m.opts 53 (putI 3 1)) 54 (putI c.server 4)) 50 (putI yi 4) }
def matchesS (c : Cfg) (t : List LeaseR) (m : Msg) (iface now : Int) : Bool :=
 if kindS m.opts ≠ 1 ∨ 64 ≤ t.length ∨ 20 < m.opts.length then true
 else if (handleS c t m iface now).send = false ∨ m.ci ≠ 0 then true
 else setOk 53 3 1 && setOk 54 c.server 4 && setOk 50 (handleS c t m iface now).reply.yi 4 &&
  ((handleS c t (matchM c m (handleS c t m iface now).reply.yi) iface now).send && (handleS c t (matchM c m (handleS c t m iface now).reply.yi) iface now).keep && decide (kindS (handleS c t (matchM c m (handleS c t m iface now).reply.yi) iface now).reply.opts = 5) &&
    decide ((handleS c t (matchM c m (handleS c t m iface now).reply.yi) iface now).reply.yi = (handleS c t m iface now).reply.yi) && decide ((handleS c t (matchM c m (handleS c t m iface now).reply.yi) iface now).lease.addr = (handleS c t m iface now).reply.yi))
theorem setOk4 {c v : Int} (hc : 1 ≤ c ∧ c ≤ 254) (h : 0 ≤ v ∧ v ≤ 4294967295) : setOk c v 4 = true := by
 have : putOk v (4 : Nat) = true := by
  simp only [putOk, decide_eq_true_eq]
  have : (256 : Int) ^ ((4 : Nat) : Int).toNat = 4294967296 := by decide
  omega
 unfold setOk
 rw [this, decide_eq_true hc]
 rfl
theorem match_find (c : Cfg) (m : Msg) (yi c' : Int) : findS (matchM c m yi).opts c' = if c' = 50 then some (putI yi 4) else if c' = 54 then some (putI c.server 4) else if c' = 53 then some (putI 3 1) else findS m.opts c' := by
 simp only [matchM, findS_keep]
theorem matches_true (c : Cfg) (t : List LeaseR) (m : Msg) (iface now : Int) : matchesS c t m iface now = true := by
 unfold matchesS
 split
 ·rfl
 rename_i hg
 split
 ·rfl
 rename_i hg2
 simp only [not_or, Classical.not_not, Bool.not_eq_false] at hg hg2
 obtain ⟨hk1, ht64, ho20⟩ := hg
 obtain ⟨hsend, hci⟩ := hg2
 rcases (handle_eq (c := c) (t := t) (m := m) (iface := iface) (now := now)).symm with he | ⟨u, x, hu, he⟩
 ·rw [he] at hsend
  cases hsend
 rw [he] at hsend ⊢
 obtain ⟨hck, htb, hnow, hop, hfo, hrm⟩ := hu.parts
 have e := hu.u
 have hum : u.m = m := by rw [e]
 have hdis : turnS u = discoverS u := by
  unfold turnS
  rw [hum, hk1]
  rfl
 rw [hdis] at hsend ⊢
 unfold discoverS at hsend ⊢
 cases hch : chooseS u.c u.t u.net u.k (wantU u) u.now with
 | none => rw [hch] at hsend; cases hsend
 | some a =>
 dsimp only
 have hyi : (sentR u 2 a false le0).reply.yi = a := rfl
 rw [hyi]
 have hm := choose_may hch
 obtain ⟨y, hy, hn, h0, hsu, htm⟩ := give_time hm
 have hra := rightA_iff.1 (find_right hy)
 have huc : u.c = c := by rw [e]
 have hut : u.t = t := by rw [e]
 have huw : u.now = now := by rw [e]
 have huk : u.k = (keyS m).1 := by rw [e]
 have hun : u.net = x.net := by rw [e]
 have hsv : 0 ≤ c.server ∧ c.server ≤ 4294967295 := by
  obtain ⟨hf, _, _⟩ := check_parts hck
  simp only [formS, Bool.and_eq_true] at hf
  exact rightA_iff.1 hf.1.1.1.1
 have hN := rightM_n hrm
 obtain ⟨m', hm'⟩ : ∃ m', m' = matchM c m a := ⟨_, rfl⟩
 have hfind : ∀ c', findS m'.opts c' = if c' = 50 then some (putI a 4) else if c' = 54 then some (putI c.server 4) else if c' = 53 then some (putI 3 1) else findS m.opts c' := fun c' => by rw [hm']; exact match_find c m a c'
 have hro : rightO m'.opts = true := by
  rw [hm']
  have k1 := keep_right (c := 53) (b := putI 3 1) hN.ro (by omega) (by decide) (by simp)
  have k2 := keep_right (c := 54) (b := putI c.server 4) k1.1 (by omega) (by decide) (by simp)
  have k3 := keep_right (c := 50) (b := putI a 4) k2.1 (by omega) (by decide) (by simp)
  exact k3.1
 have h52 : (findS m.opts 52).isNone = true := by
  simp only [rightM, Bool.and_eq_true] at hrm
  exact hrm.2
 have hrm' : rightM m' = true := by
  have h1 : (findS m'.opts 52).isNone = true := by
   rw [hfind]
   simpa using h52
  have hrm2 := hrm
  simp only [rightM, Bool.and_eq_true] at hrm2 ⊢
  refine ⟨⟨?_, hro⟩, h1⟩
  rw [hm']
  exact hrm2.1.1
 have hkey : keyS m' = keyS m := by
  unfold keyS
  rw [hrm, hrm', hfind]
  rw [hm']
  rfl
 have hnum : ∀ c', c' ≠ 50 → c' ≠ 54 → c' ≠ 53 → numS m'.opts c' = numS m.opts c' := by
  intro c' k1 k2 k3
  unfold numS
  rw [hfind, if_neg k1, if_neg k2, if_neg k3]
 have hplace : placeS m' = placeS m := by
  unfold placeS
  rw [hfind, hnum 118 (by decide) (by decide) (by decide)]
  rw [hm']
  rfl
 have hsub : subnetS c m' iface = some x := by
  have := hu.sub
  unfold subnetS at this ⊢
  rw [hrm] at this
  rw [hrm', hplace]
  exact this
 have hn54 : numS m'.opts 54 = some c.server := num_putI (by rw [hfind]; rfl) hsv.1 hsv.2
 have hn50 : numS m'.opts 50 = some a := num_putI (by rw [hfind]; rfl) hra.1 hra.2
 have hfo' : foreignS m' c.server = false := by
  unfold foreignS
  rw [hn54]
  simp
 have hkd : kindS m'.opts = 3 := by
  have h := hfind 53
  rw [if_neg (by decide), if_neg (by decide), if_pos rfl] at h
  unfold kindS
  rw [h]
  decide
 have hfair : fairH c t m' now = true := by
  unfold fairH
  rw [hck, htb, hfo', decide_eq_true hnow]
  have : m'.op = 1 := by rw [hm']; exact hop
  rw [this]
  rfl
 have hci' : m'.ci = 0 := by rw [hm']; exact hci
 have hcl : classS m' = 1 := by
  unfold classS
  rw [if_pos hkd, hn50, hn54, hci']
  rfl
 have hab : aboutS m' = a := by
  unfold aboutS
  rw [hcl, hn50]
  rfl
 obtain ⟨v, hv⟩ : ∃ v : TurnR, v = ⟨c, t, m', (keyS m').1, x.net, x.sub, x.s, now⟩ := ⟨_, rfl⟩
 have hh : handleS c t m' iface now = turnS v := by
  unfold handleS
  rw [if_pos ⟨hfair, by rw [hkey]; exact hu.key⟩, hsub, hv]
 have hmv : mayS v.c v.t v.net v.k v.now a = true := by
  rw [hv]
  dsimp only
  rw [hkey, ← huk, ← huc, ← hut, ← huw, ← hun]
  exact hm
 have hturn : turnS v = giveS v a := by
  have hvm : v.m = m' := by rw [hv]
  unfold turnS
  rw [hvm, hkd]
  show requestS v = _
  unfold requestS
  rw [hvm, hcl, hab]
  have hin : inN v.c v.net a = true := by
   have : v.c = u.c := by rw [hv, huc]
   rw [this]
   exact find_in hy (by rw [hn, hv, hun])
  rw [if_neg (by decide), hin, if_neg (by simp), if_pos rfl, if_pos hmv]
 have hgl : ∃ ex, giveL v a = ⟨a, 1, ex, v.k⟩ ∧ 0 ≤ ex ∧ ex ≤ 1125899906842624 := by
  refine ⟨_, rfl, ?_⟩
  obtain ⟨y2, _, _, _, hs2, ht2⟩ := give_time hmv
  rw [hs2]
  have : v.now = now := by rw [hv]
  rw [this]
  unfold endS
  omega
 obtain ⟨ex, hgl, hex⟩ := hgl
 have hset : (setT v.t (giveL v a)).2 = 0 := by
  have hvt : v.t = t := by rw [hv]
  rw [hgl, hvt]
  have hkr : keyR v.k = true := (fair_parts (may_fair hmv)).2.2.1
  have hr : rightL ⟨a, 1, ex, v.k⟩ = true := by
   simp only [rightL, find_right hy, hkr, Bool.and_true, Bool.true_and, Bool.and_eq_true]
   exact ⟨rfl, decide_eq_true hex⟩
  unfold setT
  rw [goodT_id htb, hr]
  rw [if_neg (by simp), if_neg]
  rintro ⟨_, h⟩
  omega
 have hk5 := kind_make (c := v.c) (s := subOf v.c v.s 5 a) (m := v.m) (kind := 5) (yi := a) rfl
 rw [← hm', hh, hturn]
 unfold giveS
 rw [if_pos hset, setOk4 (by decide) hsv, setOk4 (by decide) hra]
 have h53 : setOk 53 3 1 = true := by decide
 rw [h53]
 simp only [sentR, hk5]
 simp [makeM, giveL]
end Go.Proofs.YtnkmlhlegndlhaaGreat
