/- The six laws of chapter 19: each answers true for every input. -/
import Derived.Test.YtnkmlhlegndlhaaGreatRef19
import Derived.Test.YtnkmlhlegndlhaaGreatEngL
import Derived.Test.YtnkmlhlegndlhaaGreatMsgT
import Derived.Test.YtnkmlhlegndlhaaGreatCfgT
namespace Go.Proofs.YtnkmlhlegndlhaaGreat
open BoEng Go
set_option maxRecDepth 100000
attribute [-simp] List.map_take List.map_drop List.length_flatMap
set_option linter.unusedSimpArgs false
set_option linter.unusedVariables false
def smallE (l : LeaseR) : Bool := decide (l.key.length ≤ 1000)
def smallLs (ls : List LeaseR) : Bool := ls.all smallE && decide (ls.length ≤ 200)
def LsOk (ls : List LeaseR) : Prop := ls.length ≤ 9223372036854775807 ∧ ∀ l ∈ ls, l.key.length ≤ 9223372036854775807
def gr12I (ls : List LeaseR) (i : Nat) (S : PS) : Prop :=
 i ≤ ls.length ∧ (ls.take i).all smallE = true ∧ S.t 0 = .d (.slice (ls.map LeaseR.d)) ∧ S.t 3 = .d (.int .i64 i)
theorem great12 (ls : List LeaseR) (hl : LsOk ls) : Holds Tryz.prog 85 [.d (.slice (ls.map LeaseR.d))] (.d (.bool (!smallLs ls))) (fun _ => false) := by
 refine Holds.by (by kernel_rfl) Tryz.func85 (by kernel_rfl) rfl [] (by simp) (by kernel_rfl) (by kernel_rfl) rfl ?_
 conv in ccs _ => cbv
 obtain ⟨h1, h2⟩ := hl
 simp (config := sc) (disch := try exact dd) [std]
 refine lp (gr12I ls) (fun i => ls.length - i) 0 ⟨by omega, by simp, by simp, by simp⟩ ?_
 rintro i S ⟨hi, ha, e0, e3⟩
 by_cases hlt : i < ls.length
 ·have k6 : (i : Int) < ls.length := by omega
  have hn : nth ls (i : Int) = ls[i] := nth_nat hlt
  have hk := h2 _ (List.getElem_mem hlt)
  by_cases hb : ls[i].key.length ≤ 1000
  ·have hb' : ¬ (1000 : Int) < ls[i].key.length := by omega
   have hstep := allc_step (p := smallE) hlt ha (decide_eq_true hb)
   generalize ls[i] = a at *
   simp (config := sc) (disch := try exact dd) [std, e0, e3, k6, hn, hb']
   exact nxt_of (i + 1) ⟨by omega, hstep, by simp (config := sc) (disch := try exact dd) [std, e0], by simp⟩ (by omega)
  ·have hb' : (1000 : Int) < ls[i].key.length := by omega
   have hz : (!smallLs ls) = true := by
    have := allc_bad (p := smallE) hlt (decide_eq_false hb)
    simp [smallLs, this]
   generalize ls[i] = a at *
   simp (config := sc) (disch := try exact dd) [std, e0, e3, k6, hn, hb', hz]
 ·have k6 : ¬ (i : Int) < ls.length := by omega
  have hal := allc_end hlt ha
  by_cases c1 : (200 : Int) < ls.length
  ·have hz : smallLs ls = false := by
    rw [Bool.eq_false_iff]
    simp only [smallLs, ne_eq, Bool.and_eq_true, decide_eq_true_eq]
    omega
   simp (config := sc) (disch := try exact dd) [std, e0, e3, k6, c1, hz]
  ·have hz : smallLs ls = true := by
    simp only [smallLs, Bool.and_eq_true, decide_eq_true_eq]
    exact ⟨hal, by omega⟩
   simp (config := sc) (disch := try exact dd) [std, e0, e3, k6, c1, hz]
theorem small12 {ls : List LeaseR} (h : smallLs ls = true) : TSz ls := by
 simp only [smallLs, Bool.and_eq_true, decide_eq_true_eq, List.all_eq_true, smallE] at h
 exact ⟨by omega, fun l hl => by have := h.1 l hl; omega⟩
theorem great15 (c : Cfg) (t : List LeaseR) (ht : LsOk t) : Holds Tryz.prog 34 [.d c.d, .d (.slice (t.map LeaseR.d)), .d (.str [])] (.d (.bool (!(smallC c && smallLs t)))) (fun _ => false) := by
 refine Holds.by (by kernel_rfl) Tryz.func34 (by kernel_rfl) rfl [20003] (by simp) (by kernel_rfl) (by kernel_rfl) rfl ?_
 conv in ccs _ => cbv
 have q1 := great13 c
 have q2 := great12 t ht
 cases h1 : smallC c with
 | false =>
   rw [h1] at q1
   simp (config := sc) (disch := try exact dd) [std]
   refine oc q1 ?_
   simp (config := sc) (disch := try exact dd) [std]
 | true =>
   rw [h1] at q1
   generalize smallLs t = b at *
   cases b <;> (
    simp (config := sc) (disch := try exact dd) [std]
    refine oc q1 ?_
    simp (config := sc) (disch := try exact dd) [std]
    refine oc q2 ?_
    simp (config := sc) (disch := try exact dd) [std])
def small19 (c : Cfg) (t : List LeaseR) (m : Msg) : Bool := smallC c && smallLs t && smallM m
theorem great19 (c : Cfg) (t : List LeaseR) (m : Msg) (ht : LsOk t) (hm : m.opts.length ≤ 9223372036854775807) : Holds Tryz.prog 9 [.d c.d, .d (.slice (t.map LeaseR.d)), .d m.d] (.d (.bool (!small19 c t m))) (fun _ => false) := by
 refine Holds.by (by kernel_rfl) Tryz.func9 (by kernel_rfl) rfl [20003, 20005] (by simp) (by kernel_rfl) (by kernel_rfl) rfl ?_
 conv in ccs _ => cbv
 have q1 := great15 c t ht
 have q2 := great04 m hm
 unfold small19
 generalize (smallC c && smallLs t) = a at *
 generalize smallM m = b at *
 cases a <;> (
  simp (config := sc) (disch := try exact dd) [std]
  refine oc q1 ?_
  simp (config := sc) (disch := try exact dd) [std]
  try refine oc q2 ?_
  try simp (config := sc) (disch := try exact dd) [std])
theorem small19_parts {c : Cfg} {t : List LeaseR} {m : Msg} (h : small19 c t m = true) : sizedC c ∧ TSz t ∧ sizedM m := by
 simp only [small19, Bool.and_eq_true] at h
 exact ⟨smallC_sized h.1.1, small12 h.1.2, small_sized h.2⟩
def clientM (kind : Int) (more : List Opt) : Msg := ⟨1, 0, 0, 0, 0, 0, 0, 0, 0, 0, 0, [0, 0, 0, 0, 0, 0, 0, 0, 0, 0, 0, 0, 0, 0, 0, 0], [⟨53, [lowB kind]⟩, ⟨61, [48, 50]⟩] ++ more⟩
theorem law19Client (kind : Int) (more : List Opt) (hm : more.length ≤ 100) : Holds Tryz.prog 37 [.d (.int .i64 kind), .d (.slice (more.map Opt.d))] (.d (clientM kind more).d) (fun _ => false) := by
 refine Holds.by (by kernel_rfl) Tryz.func37 (by kernel_rfl) rfl [10010, 80010, 20011, 20014, 15] (by simp) (by kernel_rfl) (by kernel_rfl) rfl ?_
 conv in ccs _ => cbv
 simp (config := sc) (disch := try exact dd) [std, u8_wrapB, flat_cons, flat_nil, thawB, chunk]
 rw [o_mkF (n := 16) (z := .int .u8 0) (by simp) (by simp)]
 simp (config := sc) (disch := try exact dd) [std, clientM]
def srvO : Opt := ⟨54, [10, 0, 0, 1]⟩
def wntO : Opt := ⟨50, [10, 0, 0, 10]⟩
def kL : LeaseR := ⟨167772170, 1, 605, [105, 48, 50]⟩
theorem kn1 : (handleS plainC [] (clientM 1 []) 1 5).send = true ∧ (handleS plainC [] (clientM 1 []) 1 5).reply.yi = 167772170 ∧ (handleS plainC [] (clientM 1 []) 1 5).to.raw = true := by decide +kernel
theorem kn2 : (handleS plainC [] (clientM 3 [srvO, wntO]) 1 5).send = true ∧ (handleS plainC [] (clientM 3 [srvO, wntO]) 1 5).keep = true ∧ (handleS plainC [] (clientM 3 [srvO, wntO]) 1 5).lease = kL := by decide +kernel
theorem kn3 : setT [] kL = ([kL], 0) := by decide +kernel
theorem kn4 : (handleS plainC [kL] (clientM 4 [srvO, wntO]) 1 9).send = false ∧ (handleS plainC [kL] (clientM 4 [srvO, wntO]) 1 9).keep = true ∧ (handleS plainC [kL] (clientM 4 [srvO, wntO]) 1 9).lease.expiry = 309 ∧ (handleS plainC [kL] (clientM 4 [srvO, wntO]) 1 9).lease.state = 3 := by decide +kernel
theorem client_sized (k : Int) (b : Bool) : sizedM (clientM k (if b then [srvO, wntO] else [])) := by
 cases b <;> refine ⟨by simp [clientM], by simp [clientM], ?_⟩ <;> simp [clientM, srvO, wntO]
theorem tsz_nil : TSz [] := ⟨by simp, by simp⟩
theorem tsz_kL : TSz [kL] := ⟨by simp, by simp [kL]⟩
set_option maxHeartbeats 2000000 in
theorem knows19 : Holds Tryz.prog 10 [] (.d (.bool true)) (fun _ => false) := by
 refine Holds.by (by kernel_rfl) Tryz.func10 (by kernel_rfl) rfl [3014001, 3004004, 3017001, 3018002, 3019003, 3005005, 3029001, 3031002, 3032003, 3008008] (by simp) (by kernel_rfl) (by kernel_rfl) rfl ?_
 conv in ccs _ => cbv
 have q1 := law19Client 1 [] (by simp)
 have q2 := law19Client 3 [srvO, wntO] (by simp)
 have q3 := law19Client 4 [srvO, wntO] (by simp)
 have z1 := engineHandle plainC [] (clientM 1 []) 1 5 plain_sized tsz_nil (client_sized 1 false)
 have z2 := engineHandle plainC [] (clientM 3 [srvO, wntO]) 1 5 plain_sized tsz_nil (client_sized 3 true)
 have z3 := engineHandle plainC [kL] (clientM 4 [srvO, wntO]) 1 9 plain_sized tsz_kL (client_sized 4 true)
 have z4 := tableSet [] kL (by simp) (by simp) (by simp [kL])
 rw [kn3] at z4
 obtain ⟨a1, a2, a3⟩ := kn1
 obtain ⟨b1, b2, b3⟩ := kn2
 obtain ⟨d1, d2, d3, d4⟩ := kn4
 generalize handleS plainC [] (clientM 1 []) 1 5 = A at *
 generalize handleS plainC [] (clientM 3 [srvO, wntO]) 1 5 = B at *
 generalize handleS plainC [kL] (clientM 4 [srvO, wntO]) 1 9 = D at *
 generalize clientM 1 [] = m1 at *
 generalize clientM 3 [srvO, wntO] = m3 at *
 generalize clientM 4 [srvO, wntO] = m4 at *
 have hB : B.lease.addr = 167772170 ∧ B.lease.state = 1 ∧ B.lease.expiry = 605 ∧ B.lease.key = [105, 48, 50] := by rw [b3]; exact ⟨rfl, rfl, rfl, rfl⟩
 obtain ⟨l1, l2, l3, l4⟩ := hB
 simp (config := sc) (disch := try exact dd) [std]
 refine oc plain13 ?_
 simp (config := sc) (disch := try exact dd) [std, plainC]
 refine oc q1 ?_
 simp (config := sc) (disch := try exact dd) [std]
 refine oc z1 ?_
 simp (config := sc) (disch := try exact dd) [std]
 refine oc q2 ?_
 simp (config := sc) (disch := try exact dd) [std]
 refine oc z2 ?_
 simp (config := sc) (disch := try exact dd) [std, l1, l2, l3, l4]
 refine oc z4 ?_
 simp (config := sc) (disch := try exact dd) [std, kL]
 refine oc q3 ?_
 simp (config := sc) (disch := try exact dd) [std]
 refine oc z3 ?_
 simp (config := { sc with maxSteps := 1000000 }) (disch := try exact dd) [std, a1, a2, a3, b1, b2, d1, d2, d3, d4, l1, l2, l3, l4]
theorem reply_sized {c : Cfg} {t : List LeaseR} {m : Msg} {iface now : Int} : sizedM (handleS c t m iface now).reply := by
 have sent : ∀ u : TurnR, rightM u.m = true → ∀ kind a keep l, sizedM (sentR u kind a keep l).reply := by
  intro u hr kind a keep l
  obtain ⟨h1, h2, _⟩ := make_opts (c := u.c) (s := subOf u.c u.s kind a) (kind := kind) (yi := a) hr
  have h3 := h1.length_le
  rw [List.length_map] at h3
  simp only [List.length_cons, List.length_nil] at h3
  have hN := rightM_n hr
  refine ⟨?_, ?_, fun o ho => ?_⟩
  ·have := hN.ch
   show u.m.chaddr.length ≤ 100000
   omega
  ·show (optB u.c (subOf u.c u.s kind a) u.m kind a ++ echoL u.m 61 ++ echoL u.m 82).length ≤ 100000
   omega
  ·have := h2 o ho
   omega
 rcases handle_eq (c := c) (t := t) (m := m) (iface := iface) (now := now) with ⟨u, x, hu, he⟩ | he
 ·rw [he]
  have hr : rightM u.m = true := by
   have := hu.parts.2.2.2.2.2
   rw [hu.u]
   exact this
  have hout := turn_out u
  generalize turnS u = r at *
  cases hout with
  | none => exact msg0_sized
  | offer a hc hk => exact sent u hr ..
  | give a hm hs hk => exact sent u hr ..
  | nak hk => exact sent u hr ..
  | decline hm => exact msg0_sized
  | release hm => exact msg0_sized
  | inform hk hc => exact sent u hr ..
 ·rw [he]; exact msg0_sized
theorem lawHandles (c : Cfg) (t : List LeaseR) (m : Msg) (iface now : Int) (ht : LsOk t) (hm : m.opts.length ≤ 9223372036854775807) :
  Holds Tryz.prog 3 [.d c.d, .d (.slice (t.map LeaseR.d)), .d m.d, .d (.int .i64 iface), .d (.int .i64 now)] (.d (.bool true)) (fun _ => false) := by
 refine Holds.by (by kernel_rfl) Tryz.func3 (by kernel_rfl) rfl [20005, 20007, 50017, 50019] (by simp) (by kernel_rfl) (by kernel_rfl) rfl ?_
 conv in ccs _ => cbv
 have q := great19 c t m ht hm
 have kn := knows19
 cases h : small19 c t m with
 | false =>
   rw [h] at q
   simp (config := sc) (disch := try exact dd) [std]
   refine oc q ?_
   simp (config := sc) (disch := try exact dd) [std]
   refine oc kn ?_
   simp (config := sc) (disch := try exact dd) [std]
 | true =>
   rw [h] at q
   obtain ⟨hc, ht2, hm2⟩ := small19_parts h
   have z1 := engineHandle c t m iface now hc ht2 hm2
   have z2 := ref19Handle c t m iface now hc ht2 hm2
   have z3 := law19As (handleS c t m iface now)
   have z4 := ref19Same (handleS c t m iface now) (by have := (reply_sized (c := c) (t := t) (m := m) (iface := iface) (now := now)).2.1; omega)
   have z5 := lawAsM m
   generalize handleS c t m iface now = r at *
   simp (config := sc) (disch := try exact dd) [std]
   refine oc q ?_
   simp (config := sc) (disch := try exact dd) [std]
   refine oc z1 ?_
   simp (config := sc) (disch := try exact dd) [std]
   refine oc z3 ?_
   simp (config := sc) (disch := try exact dd) [std]
   refine oc z5 ?_
   simp (config := sc) (disch := try exact dd) [std]
   refine oc z2 ?_
   simp (config := sc) (disch := try exact dd) [std]
   refine oc z4 ?_
   simp (config := sc) (disch := try exact dd) [std]
   refine oc kn ?_
   simp (config := sc) (disch := try exact dd) [std]
set_option maxHeartbeats 1000000 in
theorem lawGives (c : Cfg) (t : List LeaseR) (m : Msg) (iface now : Int) (ht : LsOk t) (hm : m.opts.length ≤ 9223372036854775807) :
  Holds Tryz.prog 4 [.d c.d, .d (.slice (t.map LeaseR.d)), .d m.d, .d (.int .i64 iface), .d (.int .i64 now)] (.d (.bool true)) (fun _ => false) := by
 refine Holds.by (by kernel_rfl) Tryz.func4 (by kernel_rfl) rfl [20005, 20007, 50022, 50024] (by simp) (by kernel_rfl) (by kernel_rfl) rfl ?_
 conv in ccs _ => cbv
 have q := great19 c t m ht hm
 have kn := knows19
 cases h : small19 c t m with
 | false =>
   rw [h] at q
   simp (config := sc) (disch := try exact dd) [std]
   refine oc q ?_
   simp (config := sc) (disch := try exact dd) [std]
   refine oc kn ?_
   simp (config := sc) (disch := try exact dd) [std]
 | true =>
   rw [h] at q
   obtain ⟨hc, ht2, hm2⟩ := small19_parts h
   have z1 := engineHandle c t m iface now hc ht2 hm2
   have z2 := ref07Of m hm2
   have z3 := ref14Subnet c m iface hc hm2
   have z5 := lawAsM m
   have hkl := keyS_len m hm2
   have hg := gives_true c t m iface now
   unfold givesS at hg
   generalize handleS c t m iface now = r at *
   by_cases h1 : r.send = true ∧ r.reply.yi ≠ 0
   ·rw [if_pos h1] at hg
    obtain ⟨h1, h2⟩ := h1
    have h2 : ¬ r.reply.yi = 0 := h2
    cases hs : subnetS c m iface with
    | none => rw [hs] at hg; simp at hg
    | some x =>
      rw [hs] at hg
      simp only [Bool.and_eq_true, decide_eq_true_eq] at hg
      obtain ⟨g1, g2, g3⟩ := hg
      rw [hs, foundD_s] at z3
      rw [g1] at z2
      have z6 := ref15In c x.net r.reply.yi hc
      rw [g2] at z6
      have z7 := ref15May c t x.net (keyS m).1 r.reply.yi now hc ht2 (by omega)
      rw [g3] at z7
      simp (config := sc) (disch := try exact dd) [std]
      refine oc q ?_
      simp (config := sc) (disch := try exact dd) [std]
      refine oc z1 ?_
      simp (config := sc) (disch := try exact dd) [std, h1, h2]
      refine oc z5 ?_
      simp (config := sc) (disch := try exact dd) [std]
      refine oc z2 ?_
      simp (config := sc) (disch := try exact dd) [std]
      refine oc z5 ?_
      simp (config := sc) (disch := try exact dd) [std]
      refine oc z3 ?_
      simp (config := sc) (disch := try exact dd) [std]
      refine oc z6 ?_
      simp (config := sc) (disch := try exact dd) [std]
      refine oc z7 ?_
      simp (config := sc) (disch := try exact dd) [std]
      refine oc kn ?_
      simp (config := sc) (disch := try exact dd) [std]
   ·have h2 : r.send = false ∨ (r.send = true ∧ r.reply.yi = 0) := by
     cases hs : r.send with
     | false => exact .inl rfl
     | true => exact .inr ⟨rfl, Classical.not_not.1 fun e => h1 ⟨hs, e⟩⟩
    rcases h2 with h2 | ⟨h2, h3⟩
    ·simp (config := sc) (disch := try exact dd) [std]
     refine oc q ?_
     simp (config := sc) (disch := try exact dd) [std]
     refine oc z1 ?_
     simp (config := sc) (disch := try exact dd) [std, h2]
     refine oc kn ?_
     simp (config := sc) (disch := try exact dd) [std]
    ·simp (config := sc) (disch := try exact dd) [std]
     refine oc q ?_
     simp (config := sc) (disch := try exact dd) [std]
     refine oc z1 ?_
     simp (config := sc) (disch := try exact dd) [std, h2, h3]
     refine oc kn ?_
     simp (config := sc) (disch := try exact dd) [std]
set_option maxHeartbeats 1000000 in
theorem lawKeeps (c : Cfg) (t : List LeaseR) (m : Msg) (iface now : Int) (ht : LsOk t) (hm : m.opts.length ≤ 9223372036854775807) :
  Holds Tryz.prog 5 [.d c.d, .d (.slice (t.map LeaseR.d)), .d m.d, .d (.int .i64 iface), .d (.int .i64 now)] (.d (.bool true)) (fun _ => false) := by
 refine Holds.by (by kernel_rfl) Tryz.func5 (by kernel_rfl) rfl [20005, 20007, 50022, 50024] (by simp) (by kernel_rfl) (by kernel_rfl) rfl ?_
 conv in ccs _ => cbv
 have q := great19 c t m ht hm
 have kn := knows19
 cases h : small19 c t m with
 | false =>
   rw [h] at q
   simp (config := sc) (disch := try exact dd) [std]
   refine oc q ?_
   simp (config := sc) (disch := try exact dd) [std]
   refine oc kn ?_
   simp (config := sc) (disch := try exact dd) [std]
 | true =>
   rw [h] at q
   obtain ⟨hc, ht2, hm2⟩ := small19_parts h
   have z1 := engineHandle c t m iface now hc ht2 hm2
   have z2 := ref07Of m hm2
   have z5 := lawAsM m
   have hsz := reply_sized (c := c) (t := t) (m := m) (iface := iface) (now := now)
   have hg := keeps_true c t m iface now
   unfold keepsS at hg
   generalize handleS c t m iface now = r at *
   have z3 := ref05Kind r.reply.opts hsz.2
   have z4 := ref05Number r.reply.opts 51 hsz.2
   clear hsz
   generalize kindS r.reply.opts = kd at *
   by_cases h1 : r.send = true ∧ kd = 5 ∧ r.reply.yi ≠ 0
   ·rw [if_pos h1] at hg
    obtain ⟨h1, rfl, h2⟩ := h1
    have h2 : ¬ r.reply.yi = 0 := h2
    cases hn : numS r.reply.opts 51 with
    | none => rw [hn] at hg; simp at hg
    | some n =>
      rw [hn] at hg z4
      simp only [Bool.and_eq_true, decide_eq_true_eq] at hg
      obtain ⟨g1, ⟨g2, g3⟩, g4⟩ := hg
      have z6 := ref19End now n g4 g3
      generalize endS now n = en at *
      generalize (keyS m).2 = ke at *
      generalize (keyS m).1 = kk at *
      have l1 : r.lease.addr = r.reply.yi := by rw [g2]
      have l2 : r.lease.state = 1 := by rw [g2]
      have l3 : r.lease.expiry = en := by rw [g2]
      have l4 : r.lease.key = kk := by rw [g2]
      simp (config := sc) (disch := try exact dd) [std]
      refine oc q ?_
      simp (config := sc) (disch := try exact dd) [std]
      refine oc z1 ?_
      simp (config := sc) (disch := try exact dd) [std, h1]
      refine oc z3 ?_
      simp (config := sc) (disch := try exact dd) [std, h2]
      refine oc z5 ?_
      simp (config := sc) (disch := try exact dd) [std]
      refine oc z2 ?_
      simp (config := sc) (disch := try exact dd) [std]
      refine oc z4 ?_
      simp (config := sc) (disch := try exact dd) [std, g1]
      refine oc z6 ?_
      simp (config := sc) (disch := try exact dd) [std, l1, l2, l3, l4]
      refine oc kn ?_
      simp (config := sc) (disch := try exact dd) [std]
   ·rw [if_neg h1] at hg
    have h2 : r.send = false ∨ (r.send = true ∧ r.keep = false ∧ ¬ kd = 5) ∨ (r.send = true ∧ r.keep = false ∧ kd = 5 ∧ r.reply.yi = 0) := by
     cases hs : r.send with
     | false => exact .inl rfl
     | true =>
       rw [hs] at hg
       have hk : r.keep = false := by simpa using hg
       by_cases h5 : kd = 5
       ·exact .inr (.inr ⟨rfl, hk, h5, Classical.not_not.1 fun e => h1 ⟨hs, h5, e⟩⟩)
       ·exact .inr (.inl ⟨rfl, hk, h5⟩)
    rcases h2 with h2 | ⟨h2, h3, h4⟩ | ⟨h2, h3, rfl, h4⟩
    ·simp (config := sc) (disch := try exact dd) [std]
     refine oc q ?_
     simp (config := sc) (disch := try exact dd) [std]
     refine oc z1 ?_
     simp (config := sc) (disch := try exact dd) [std, h2]
     refine oc kn ?_
     simp (config := sc) (disch := try exact dd) [std]
    ·simp (config := sc) (disch := try exact dd) [std]
     refine oc q ?_
     simp (config := sc) (disch := try exact dd) [std]
     refine oc z1 ?_
     simp (config := sc) (disch := try exact dd) [std, h2]
     refine oc z3 ?_
     simp (config := sc) (disch := try exact dd) [std, h2, h3, h4]
     refine oc kn ?_
     simp (config := sc) (disch := try exact dd) [std]
    ·simp (config := sc) (disch := try exact dd) [std]
     refine oc q ?_
     simp (config := sc) (disch := try exact dd) [std]
     refine oc z1 ?_
     simp (config := sc) (disch := try exact dd) [std, h2]
     refine oc z3 ?_
     simp (config := sc) (disch := try exact dd) [std, h2, h3, h4]
     refine oc kn ?_
     simp (config := sc) (disch := try exact dd) [std]
end Go.Proofs.YtnkmlhlegndlhaaGreat
