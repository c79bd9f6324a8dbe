/- The six laws of chapter 19, third part. -/
import Derived.Test.YtnkmlhlegndlhaaGreatLaw19b
namespace Go.Proofs.YtnkmlhlegndlhaaGreat
open BoEng Go
set_option maxRecDepth 100000
attribute [-simp] List.map_take List.map_drop List.length_flatMap
set_option linter.unusedSimpArgs false
set_option linter.unusedVariables false
theorem keep_sized {l : List Opt} {c : Int} {b : List UInt8} (h : sized l) (hl : l.length ≤ 1000) (hb : b.length ≤ 1000) : sized (keepS l c b) ∧ (keepS l c b).length ≤ l.length + 1 := by
 obtain ⟨h1, _⟩ := drop_sub c l
 have h6 := h1.length_le
 unfold keepS
 refine ⟨⟨?_, fun o ho => ?_⟩, ?_⟩
 ·simp only [List.length_append, List.length_cons, List.length_nil]
  omega
 ·rcases List.mem_append.1 ho with ho | ho
  ·exact h.2 o (h1.subset ho)
  ·rw [List.mem_singleton.1 ho]
   show b.length ≤ 100000
   omega
 ·simp only [List.length_append, List.length_cons, List.length_nil]
  omega
theorem keyR_len {k : List UInt8} (h : keyR k = true) : k.length ≤ 256 := by
 unfold keyR at h
 split at h
 ·cases h
 ·split at h
  ·have := of_decide_eq_true h
   simp only [List.length_cons]
   omega
  ·split at h
   ·have := of_decide_eq_true h
    simp only [List.length_cons]
    omega
   ·cases h
theorem tab_sz {t : List LeaseR} (h : tableR t = true) : TSz t := by
 obtain ⟨h1, h2, _⟩ := tab_iff.1 h
 exact ⟨by omega, fun l hl => by have := keyR_len (right_rng (h2 l hl)).2.2.2; omega⟩
set_option maxHeartbeats 4000000 in
theorem lawMatches (c : Cfg) (t : List LeaseR) (m : Msg) (iface now : Int) (ht : LsOk t) (hm : m.opts.length ≤ 9223372036854775807) :
  Holds Tryz.prog 7 [.d c.d, .d (.slice (t.map LeaseR.d)), .d m.d, .d (.int .i64 iface), .d (.int .i64 now)] (.d (.bool true)) (fun _ => false) := by
 refine Holds.by (by kernel_rfl) Tryz.func7 (by kernel_rfl) rfl [20005, 50039, 3041007, 3011011, 50087, 3089007, 3016016] (by simp) (by kernel_rfl) (by kernel_rfl) rfl ?_
 conv in ccs _ => cbv
 have q := great19 c t m ht hm
 have kn := knows19
 cases h : small19 c t m with
 | false =>
   rw [h] at q
   simp (config := sc) (disch := try exact dd) [std]
   refine oc q ?_
   simp (config := sc) (disch := try exact dd) [std]
   refine oc kn ?_
   simp (config := sc) (disch := try exact dd) [std]
 | true =>
 rw [h] at q
 obtain ⟨hc, ht2, hm2⟩ := small19_parts h
 have hl := ht2.l
 have z6 := ref05Kind m.opts hm2.2
 have hg := matches_true c t m iface now
 unfold matchesS at hg
 by_cases h1 : kindS m.opts = 1
 case neg =>
  simp (config := sc) (disch := try exact dd) [std]
  refine oc q ?_
  simp (config := sc) (disch := try exact dd) [std]
  refine oc z6 ?_
  simp (config := sc) (disch := try exact dd) [std, h1]
  refine oc kn ?_
  simp (config := sc) (disch := try exact dd) [std]
 rw [h1] at z6
 by_cases h2 : (64 : Int) ≤ t.length
 ·simp (config := sc) (disch := try exact dd) [std]
  refine oc q ?_
  simp (config := sc) (disch := try exact dd) [std]
  refine oc z6 ?_
  simp (config := sc) (disch := try exact dd) [std, h2]
  refine oc kn ?_
  simp (config := sc) (disch := try exact dd) [std]
 by_cases h3 : (20 : Int) < m.opts.length
 ·simp (config := sc) (disch := try exact dd) [std]
  refine oc q ?_
  simp (config := sc) (disch := try exact dd) [std]
  refine oc z6 ?_
  simp (config := sc) (disch := try exact dd) [std, h2, h3]
  refine oc kn ?_
  simp (config := sc) (disch := try exact dd) [std]
 rw [if_neg (by simp only [not_or]; exact ⟨fun e => e h1, by omega, by omega⟩)] at hg
 have z1 := engineHandle c t m iface now hc ht2 hm2
 have z3 := fun yi => engineHandle c t (matchM c m yi) iface now hc ht2
 generalize hr : handleS c t m iface now = r at *
 by_cases h4 : r.send = true
 case neg =>
  have h4 : r.send = false := by simpa using h4
  simp (config := sc) (disch := try exact dd) [std]
  refine oc q ?_
  simp (config := sc) (disch := try exact dd) [std]
  refine oc z6 ?_
  simp (config := sc) (disch := try exact dd) [std, h2, h3]
  refine oc z1 ?_
  simp (config := sc) (disch := try exact dd) [std, h4]
  refine oc kn ?_
  simp (config := sc) (disch := try exact dd) [std]
 by_cases h5 : m.ci = 0
 case neg =>
  simp (config := sc) (disch := try exact dd) [std]
  refine oc q ?_
  simp (config := sc) (disch := try exact dd) [std]
  refine oc z6 ?_
  simp (config := sc) (disch := try exact dd) [std, h2, h3]
  refine oc z1 ?_
  simp (config := sc) (disch := try exact dd) [std, h4, h5]
  refine oc kn ?_
  simp (config := sc) (disch := try exact dd) [std]
 rw [if_neg (by simp only [not_or]; exact ⟨by simp [h4], fun e => e h5⟩)] at hg
 have z3 := z3 r.reply.yi
 have hsz3 := reply_sized (c := c) (t := t) (m := matchM c m r.reply.yi) (iface := iface) (now := now)
 generalize hr2 : handleS c t (matchM c m r.reply.yi) iface now = r2 at *
 simp only [Bool.and_eq_true, decide_eq_true_eq] at hg
 obtain ⟨⟨⟨g1, g2⟩, g3⟩, ⟨⟨⟨g4, g5⟩, g6⟩, g7⟩, g8⟩ := hg
 have hol : m.opts.length ≤ 20 := by omega
 have k1 := keep_sized (c := 53) (b := putI 3 1) hm2.2 (by omega) (by simp)
 have k2 := keep_sized (c := 54) (b := putI c.server 4) k1.1 (by omega) (by simp)
 have k3 := keep_sized (c := 50) (b := putI r.reply.yi 4) k2.1 (by omega) (by simp)
 have s1 := optsSet m.opts 53 3 1 hm2.2
 have s2 := optsSet (keepS m.opts 53 (putI 3 1)) 54 c.server 4 k1.1
 have s3 := optsSet (keepS (keepS m.opts 53 (putI 3 1)) 54 (putI c.server 4)) 50 r.reply.yi 4 k2.1
 rw [g1, if_pos rfl, if_pos rfl] at s1
 rw [g2, if_pos rfl, if_pos rfl] at s2
 rw [g3, if_pos rfl, if_pos rfl] at s3
 have z3 := z3 ⟨hm2.1, k3.1⟩
 have z7 := ref05Kind r2.reply.opts hsz3.2
 rw [g6] at z7
 unfold matchM at z3
 simp only [Msg.d_eq, h5] at z3
 generalize keepS (keepS (keepS m.opts 53 (putI 3 1)) 54 (putI c.server 4)) 50 (putI r.reply.yi 4) = L3 at *
 generalize keepS (keepS m.opts 53 (putI 3 1)) 54 (putI c.server 4) = L2 at *
 generalize keepS m.opts 53 (putI 3 1) = L1 at *
 simp (config := sc) (disch := try exact dd) [std]
 refine oc q ?_
 simp (config := sc) (disch := try exact dd) [std]
 refine oc z6 ?_
 simp (config := sc) (disch := try exact dd) [std, h2, h3]
 refine oc z1 ?_
 simp (config := sc) (disch := try exact dd) [std, h4, h5]
 refine oc s1 ?_
 simp (config := sc) (disch := try exact dd) [std]
 refine oc s2 ?_
 simp (config := sc) (disch := try exact dd) [std]
 refine oc s3 ?_
 simp (config := sc) (disch := try exact dd) [std]
 refine oc z3 ?_
 simp (config := sc) (disch := try exact dd) [std, g4, g5]
 refine oc z7 ?_
 simp (config := sc) (disch := try exact dd) [std, g7, g8]
 refine oc kn ?_
 simp (config := sc) (disch := try exact dd) [std]
set_option maxHeartbeats 4000000 in
theorem lawFits (c : Cfg) (t : List LeaseR) (m : Msg) (iface now : Int) (ht : LsOk t) (hm : m.opts.length ≤ 9223372036854775807) :
  Holds Tryz.prog 8 [.d c.d, .d (.slice (t.map LeaseR.d)), .d m.d, .d (.int .i64 iface), .d (.int .i64 now)] (.d (.bool true)) (fun _ => false) := by
 refine Holds.by (by kernel_rfl) Tryz.func8 (by kernel_rfl) rfl [20005, 20007, 50022, 50024] (by simp) (by kernel_rfl) (by kernel_rfl) rfl ?_
 conv in ccs _ => cbv
 have q := great19 c t m ht hm
 have kn := knows19
 cases h : small19 c t m with
 | false =>
   rw [h] at q
   simp (config := sc) (disch := try exact dd) [std]
   refine oc q ?_
   simp (config := sc) (disch := try exact dd) [std]
   refine oc kn ?_
   simp (config := sc) (disch := try exact dd) [std]
 | true =>
 rw [h] at q
 obtain ⟨hc, ht2, hm2⟩ := small19_parts h
 have z1 := engineHandle c t m iface now hc ht2 hm2
 have hg := fits_true c t m iface now
 unfold fitsS at hg
 generalize handleS c t m iface now = r at *
 cases h1 : r.keep with
 | false =>
   rw [h1, if_pos rfl] at hg
   have hle := of_decide_eq_true hg
   have l1 : r.lease.addr = 0 := by rw [hle]; rfl
   have l2 : r.lease.state = 0 := by rw [hle]; rfl
   have l3 : r.lease.expiry = 0 := by rw [hle]; rfl
   have l4 : r.lease.key = [] := by rw [hle]; rfl
   simp (config := sc) (disch := try exact dd) [std]
   refine oc q ?_
   simp (config := sc) (disch := try exact dd) [std]
   refine oc z1 ?_
   simp (config := sc) (disch := try exact dd) [std, h1, l1, l2, l3, l4]
   refine oc kn ?_
   simp (config := sc) (disch := try exact dd) [std]
 | true =>
 rw [h1, if_neg (by simp)] at hg
 have hok : (setT t r.lease).2 = 0 ∧ rightL r.lease = true ∧ tableR (setT t r.lease).1 = true := by
  refine ⟨Classical.not_not.1 fun e => ?_, ?_, ?_⟩
  ·rw [if_pos (.inl e)] at hg; cases hg
  ·cases hb : rightL r.lease with
   | true => rfl
   | false => rw [if_pos (.inr (.inl hb))] at hg; cases hg
  ·cases hb : tableR (setT t r.lease).1 with
   | true => rfl
   | false => rw [if_pos (.inr (.inr hb))] at hg; cases hg
 obtain ⟨o1, o2, o3⟩ := hok
 rw [if_neg (by simp [o1, o2, o3])] at hg
 have hkl : r.lease.key.length ≤ 9223372036854775807 := by
  have := keyR_len (right_rng o2).2.2.2
  omega
 have hts := tab_sz o3
 have z2 := tableSet t r.lease ht2.l ht2.k hkl
 have z3 := ref09Right r.lease hkl
 have z4 := ref12Right (setT t r.lease).1 hts.l hts.k
 have z5 := tableRests r.lease now
 have z6 := ref13Find c r.lease.addr hc
 have z7 := fun n => allocMay c (setT t r.lease).1 n r.lease.key r.lease.addr now hc hts hkl
 rw [o1] at z2
 rw [o2] at z3
 rw [o3] at z4
 by_cases h2 : r.lease.state = 1
 case neg =>
  rw [if_pos h2] at hg
  generalize restsL now r.lease = rs at *
  generalize (setT t r.lease).1 = s at *
  by_cases h3 : r.lease.state = 2
  ·have hrs : rs = false := by simpa [h3] using hg
   subst hrs
   simp only [LeaseR.d, h3] at z5
   simp (config := sc) (disch := try exact dd) [std]
   refine oc q ?_
   simp (config := sc) (disch := try exact dd) [std]
   refine oc z1 ?_
   simp (config := sc) (disch := try exact dd) [std, h1]
   refine oc z2 ?_
   simp (config := sc) (disch := try exact dd) [std]
   refine oc z3 ?_
   simp (config := sc) (disch := try exact dd) [std]
   refine oc z4 ?_
   simp (config := sc) (disch := try exact dd) [std, h3]
   refine oc z5 ?_
   simp (config := sc) (disch := try exact dd) [std]
   refine oc kn ?_
   simp (config := sc) (disch := try exact dd) [std]
  ·have hrs : rs = true := by simpa [h3] using hg
   subst hrs
   simp (config := sc) (disch := try exact dd) [std]
   refine oc q ?_
   simp (config := sc) (disch := try exact dd) [std]
   refine oc z1 ?_
   simp (config := sc) (disch := try exact dd) [std, h1]
   refine oc z2 ?_
   simp (config := sc) (disch := try exact dd) [std]
   refine oc z3 ?_
   simp (config := sc) (disch := try exact dd) [std]
   refine oc z4 ?_
   simp (config := sc) (disch := try exact dd) [std, h2, h3]
   refine oc z5 ?_
   simp (config := sc) (disch := try exact dd) [std, h3]
   refine oc kn ?_
   simp (config := sc) (disch := try exact dd) [std]
 rw [if_neg (fun e => e h2)] at hg
 cases hf : findC c r.lease.addr with
 | none => rw [hf] at hg; simp at hg
 | some x =>
 rw [hf] at hg
 rw [hf, foundD_s] at z6
 simp only [Bool.and_eq_true, Bool.or_eq_true, decide_eq_true_eq] at hg
 obtain ⟨g1, g2⟩ := hg
 have z7 := z7 x.net
 rw [g1] at z7
 simp only [LeaseR.d, h2] at z2 z3
 generalize (setT t r.lease).1 = s at *
 rcases Classical.em (now < r.lease.expiry) with g3 | g3
 ·simp (config := sc) (disch := try exact dd) [std]
  refine oc q ?_
  simp (config := sc) (disch := try exact dd) [std]
  refine oc z1 ?_
  simp (config := sc) (disch := try exact dd) [std, h1, h2, LeaseR.d]
  refine oc z2 ?_
  simp (config := sc) (disch := try exact dd) [std]
  refine oc z3 ?_
  simp (config := sc) (disch := try exact dd) [std]
  refine oc z4 ?_
  simp (config := sc) (disch := try exact dd) [std, h2]
  refine oc z6 ?_
  simp (config := sc) (disch := try exact dd) [std]
  refine oc z7 ?_
  simp (config := sc) (disch := try exact dd) [std, g3]
  refine oc kn ?_
  simp (config := sc) (disch := try exact dd) [std]
 ·obtain rfl := g2.resolve_left g3
  simp (config := sc) (disch := try exact dd) [std]
  refine oc q ?_
  simp (config := sc) (disch := try exact dd) [std]
  refine oc z1 ?_
  simp (config := sc) (disch := try exact dd) [std, h1, h2, LeaseR.d]
  refine oc z2 ?_
  simp (config := sc) (disch := try exact dd) [std]
  refine oc z3 ?_
  simp (config := sc) (disch := try exact dd) [std]
  refine oc z4 ?_
  simp (config := sc) (disch := try exact dd) [std, h2]
  refine oc z6 ?_
  simp (config := sc) (disch := try exact dd) [std]
  refine oc z7 ?_
  simp (config := sc) (disch := try exact dd) [std, g3]
  refine oc kn ?_
  simp (config := sc) (disch := try exact dd) [std]
end Go.Proofs.YtnkmlhlegndlhaaGreat
