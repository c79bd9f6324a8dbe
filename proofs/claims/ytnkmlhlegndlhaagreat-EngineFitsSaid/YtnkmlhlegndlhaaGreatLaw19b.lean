/- The six laws of chapter 19, second part. -/
import Derived.Test.YtnkmlhlegndlhaaGreatLaw19
namespace Go.Proofs.YtnkmlhlegndlhaaGreat
open BoEng Go
set_option maxRecDepth 100000
attribute [-simp] List.map_take List.map_drop List.length_flatMap
set_option linter.unusedSimpArgs false
set_option linter.unusedVariables false
set_option maxHeartbeats 4000000 in
theorem lawNaks (c : Cfg) (t : List LeaseR) (m : Msg) (iface now : Int) (ht : LsOk t) (hm : m.opts.length ≤ 9223372036854775807) :
  Holds Tryz.prog 6 [.d c.d, .d (.slice (t.map LeaseR.d)), .d m.d, .d (.int .i64 iface), .d (.int .i64 now)] (.d (.bool true)) (fun _ => false) := by
 refine Holds.by (by kernel_rfl) Tryz.func6 (by kernel_rfl) rfl [20005, 20007, 50046, 50074, 50076] (by simp) (by kernel_rfl) (by kernel_rfl) rfl ?_
 conv in ccs _ => cbv
 have q := great19 c t m ht hm
 have kn := knows19
 cases h : small19 c t m with
 | false =>
   rw [h] at q
   simp (config := sc) (disch := try exact dd) [std]
   refine oc q ?_
   simp (config := sc) (disch := try exact dd) [std]
   refine oc kn ?_
   simp (config := sc) (disch := try exact dd) [std]
 | true =>
 rw [h] at q
 obtain ⟨hc, ht2, hm2⟩ := small19_parts h
 have p1 := ref13Check c hc
 have p2 := ref12Right t ht2.l ht2.k
 by_cases h1 : checkS c = 0
 case neg =>
  simp (config := sc) (disch := try exact dd) [std]
  refine oc q ?_
  simp (config := sc) (disch := try exact dd) [std]
  refine oc p1 ?_
  simp (config := sc) (disch := try exact dd) [std, h1]
  refine oc kn ?_
  simp (config := sc) (disch := try exact dd) [std]
 rw [h1] at p1
 cases h2 : tableR t with
 | false =>
   rw [h2] at p2
   simp (config := sc) (disch := try exact dd) [std]
   refine oc q ?_
   simp (config := sc) (disch := try exact dd) [std]
   refine oc p1 ?_
   simp (config := sc) (disch := try exact dd) [std]
   refine oc p2 ?_
   simp (config := sc) (disch := try exact dd) [std]
   refine oc kn ?_
   simp (config := sc) (disch := try exact dd) [std]
 | true =>
 rw [h2] at p2
 by_cases h3 : now < 0
 ·simp (config := sc) (disch := try exact dd) [std]
  refine oc q ?_
  simp (config := sc) (disch := try exact dd) [std]
  refine oc p1 ?_
  simp (config := sc) (disch := try exact dd) [std]
  refine oc p2 ?_
  simp (config := sc) (disch := try exact dd) [std, h3]
  refine oc kn ?_
  simp (config := sc) (disch := try exact dd) [std]
 by_cases h4 : 1125899906842624 < now
 ·simp (config := sc) (disch := try exact dd) [std]
  refine oc q ?_
  simp (config := sc) (disch := try exact dd) [std]
  refine oc p1 ?_
  simp (config := sc) (disch := try exact dd) [std]
  refine oc p2 ?_
  simp (config := sc) (disch := try exact dd) [std, h3, h4]
  refine oc kn ?_
  simp (config := sc) (disch := try exact dd) [std]
 by_cases h5 : m.op = 1
 case neg =>
  simp (config := sc) (disch := try exact dd) [std]
  refine oc q ?_
  simp (config := sc) (disch := try exact dd) [std]
  refine oc p1 ?_
  simp (config := sc) (disch := try exact dd) [std]
  refine oc p2 ?_
  simp (config := sc) (disch := try exact dd) [std, h3, h4, h5]
  refine oc kn ?_
  simp (config := sc) (disch := try exact dd) [std]
 have z1 := engineHandle c t m iface now hc ht2 hm2
 have z2 := ref07Of m hm2
 have z3 := ref14Subnet c m iface hc hm2
 have z4 := ref16Foreign m c.server hm2
 have z5 := lawAsM m
 have z6 := ref05Kind m.opts hm2.2
 have z7 := ref16Of m hm2
 have z8 := ref16About m hm2
 simp only [Msg.d_eq, h5] at z1 z2 z3 z4 z5 z7 z8
 have hg := naks_true c t m iface now
 unfold naksS at hg
 have hsz := reply_sized (c := c) (t := t) (m := m) (iface := iface) (now := now)
 have hfo : foreignS m c.server = false → fairH c t m now = true := by
  intro hf
  have : decide (0 ≤ now ∧ now ≤ 1125899906842624) = true := decide_eq_true (by omega)
  simp [fairH, this, h1, h2, h5, hf]
 generalize handleS c t m iface now = r at *
 have z10 := ref05Kind r.reply.opts hsz.2
 clear hsz
 rcases Classical.em (¬ (keyS m).2 = 0) with hk | hk
 ·unfold foundD at z3
  generalize (subnetS c m iface).isSome = fb at *
  simp (config := sc) (disch := try exact dd) [std]
  refine oc q ?_
  simp (config := sc) (disch := try exact dd) [std]
  refine oc p1 ?_
  simp (config := sc) (disch := try exact dd) [std]
  refine oc p2 ?_
  simp (config := sc) (disch := try exact dd) [std, h3, h4, h5]
  refine oc z5 ?_
  simp (config := sc) (disch := try exact dd) [std]
  refine oc z2 ?_
  simp (config := sc) (disch := try exact dd) [std]
  refine oc z3 ?_
  simp (config := sc) (disch := try exact dd) [std, hk]
  refine oc kn ?_
  simp (config := sc) (disch := try exact dd) [std]
 have hk : (keyS m).2 = 0 := Classical.not_not.1 hk
 rw [hk] at z2
 cases hs : subnetS c m iface with
 | none =>
   rw [hs, foundD_n] at z3
   simp (config := sc) (disch := try exact dd) [std]
   refine oc q ?_
   simp (config := sc) (disch := try exact dd) [std]
   refine oc p1 ?_
   simp (config := sc) (disch := try exact dd) [std]
   refine oc p2 ?_
   simp (config := sc) (disch := try exact dd) [std, h3, h4, h5]
   refine oc z5 ?_
   simp (config := sc) (disch := try exact dd) [std]
   refine oc z2 ?_
   simp (config := sc) (disch := try exact dd) [std]
   refine oc z3 ?_
   simp (config := sc) (disch := try exact dd) [std]
   refine oc kn ?_
   simp (config := sc) (disch := try exact dd) [std]
 | some x =>
 rw [hs, foundD_s] at z3
 rw [hs] at hg
 dsimp only at hg
 cases hf : foreignS m c.server with
 | true =>
   rw [hf] at z4
   simp (config := sc) (disch := try exact dd) [std]
   refine oc q ?_
   simp (config := sc) (disch := try exact dd) [std]
   refine oc p1 ?_
   simp (config := sc) (disch := try exact dd) [std]
   refine oc p2 ?_
   simp (config := sc) (disch := try exact dd) [std, h3, h4, h5]
   refine oc z5 ?_
   simp (config := sc) (disch := try exact dd) [std]
   refine oc z2 ?_
   simp (config := sc) (disch := try exact dd) [std]
   refine oc z3 ?_
   simp (config := sc) (disch := try exact dd) [std]
   refine oc z4 ?_
   simp (config := sc) (disch := try exact dd) [std]
   refine oc kn ?_
   simp (config := sc) (disch := try exact dd) [std]
 | false =>
 rw [hf] at z4
 rw [if_pos ⟨hfo hf, hk⟩] at hg
 clear hfo
 have z9 := ref15In c x.net (aboutS m) hc
 generalize kindS r.reply.opts = rk at *
 generalize kindS m.opts = kd at *
 generalize inN c x.net (aboutS m) = inn at *
 generalize aboutS m = ab at *
 generalize classS m = cl at *
 generalize (keyS m).1 = kk at *
 by_cases hA : kd = 8 ∧ m.ci ≠ 0
 ·obtain ⟨rfl, hci⟩ := hA
  have hci : ¬ m.ci = 0 := hci
  have hkp : r.keep = false := by
   cases hb : r.keep with
   | false => rfl
   | true => rw [hb] at hg; simp at hg
  rw [hkp, if_neg (by simp), if_pos ⟨rfl, hci⟩] at hg
  simp only [Bool.and_eq_true, decide_eq_true_eq] at hg
  obtain ⟨⟨g1, g2⟩, rfl⟩ := hg
  simp (config := sc) (disch := try exact dd) [std]
  refine oc q ?_
  simp (config := sc) (disch := try exact dd) [std]
  refine oc p1 ?_
  simp (config := sc) (disch := try exact dd) [std]
  refine oc p2 ?_
  simp (config := sc) (disch := try exact dd) [std, h3, h4, h5]
  refine oc z5 ?_
  simp (config := sc) (disch := try exact dd) [std]
  refine oc z2 ?_
  simp (config := sc) (disch := try exact dd) [std]
  refine oc z3 ?_
  simp (config := sc) (disch := try exact dd) [std]
  refine oc z4 ?_
  simp (config := sc) (disch := try exact dd) [std, h5]
  refine oc z1 ?_
  simp (config := sc) (disch := try exact dd) [std, hkp]
  refine oc z6 ?_
  simp (config := sc) (disch := try exact dd) [std, hci, g1, g2]
  refine oc z10 ?_
  simp (config := sc) (disch := try exact dd) [std, g1, g2]
  refine oc kn ?_
  simp (config := sc) (disch := try exact dd) [std]
 have hB : (kd = 8 ∧ m.ci = 0 ∧ r.keep = false) ∨ (¬ kd = 8 ∧ True ∧ r.keep = false) ∨ (¬ kd = 8 ∧ True ∧ r.keep = true) := by
  by_cases h8 : kd = 8
  ·refine .inl ⟨h8, Classical.not_not.1 fun e => hA ⟨h8, e⟩, ?_⟩
   cases hb : r.keep with
   | false => rfl
   | true => rw [hb, if_pos ⟨rfl, h8⟩] at hg; cases hg
  ·cases hb : r.keep with
   | false => exact .inr (.inl ⟨h8, trivial, rfl⟩)
   | true => exact .inr (.inr ⟨h8, trivial, rfl⟩)
 have hk8 : ¬ (r.keep = true ∧ kd = 8) := fun e => by rw [if_pos e] at hg; cases hg
 rw [if_neg hk8, if_neg hA] at hg
 have hC : (cl = 0 ∧ True ∧ True ∧ True) ∨ (¬ cl = 0 ∧ inn = true ∧ True ∧ True) ∨ (¬ cl = 0 ∧ inn = false ∧ (r.send = true ∧ r.reply.yi = 0) ∧ (r.keep = false ∧ rk = 6)) := by
  by_cases h0 : cl = 0
  ·exact .inl ⟨h0, trivial, trivial, trivial⟩
  ·cases hi : inn with
   | true => exact .inr (.inl ⟨h0, rfl, trivial, trivial⟩)
   | false =>
     rw [if_neg (by simp [h0, hi])] at hg
     simp only [Bool.and_eq_true, decide_eq_true_eq, Bool.not_eq_true'] at hg
     exact .inr (.inr ⟨h0, rfl, ⟨hg.1.1.2, hg.2⟩, ⟨hg.1.1.1, hg.1.2⟩⟩)
 clear hg hk8
 rcases hB with ⟨rfl, eci, ek⟩ | ⟨e8, eci, ek⟩ | ⟨e8, eci, ek⟩
 ·simp only [eci] at z7 z8
  rcases hC with ⟨rfl, _, _, _⟩ | ⟨ecl, rfl, _, _⟩ | ⟨ecl, rfl, ⟨es, ey⟩, ⟨_, rfl⟩⟩
  ·simp (config := sc) (disch := try exact dd) [std]
   refine oc q ?_
   simp (config := sc) (disch := try exact dd) [std]
   refine oc p1 ?_
   simp (config := sc) (disch := try exact dd) [std]
   refine oc p2 ?_
   simp (config := sc) (disch := try exact dd) [std, h3, h4, h5]
   refine oc z5 ?_
   simp (config := sc) (disch := try exact dd) [std]
   refine oc z2 ?_
   simp (config := sc) (disch := try exact dd) [std]
   refine oc z3 ?_
   simp (config := sc) (disch := try exact dd) [std]
   refine oc z4 ?_
   simp (config := sc) (disch := try exact dd) [std, h5]
   refine oc z1 ?_
   simp (config := sc) (disch := try exact dd) [std, ek]
   refine oc z6 ?_
   simp (config := sc) (disch := try exact dd) [std, eci, ek]
   refine oc z7 ?_
   simp (config := sc) (disch := try exact dd) [std, eci, ek]
   refine oc kn ?_
   simp (config := sc) (disch := try exact dd) [std]
  ·simp (config := sc) (disch := try exact dd) [std]
   refine oc q ?_
   simp (config := sc) (disch := try exact dd) [std]
   refine oc p1 ?_
   simp (config := sc) (disch := try exact dd) [std]
   refine oc p2 ?_
   simp (config := sc) (disch := try exact dd) [std, h3, h4, h5]
   refine oc z5 ?_
   simp (config := sc) (disch := try exact dd) [std]
   refine oc z2 ?_
   simp (config := sc) (disch := try exact dd) [std]
   refine oc z3 ?_
   simp (config := sc) (disch := try exact dd) [std]
   refine oc z4 ?_
   simp (config := sc) (disch := try exact dd) [std, h5]
   refine oc z1 ?_
   simp (config := sc) (disch := try exact dd) [std, ek]
   refine oc z6 ?_
   simp (config := sc) (disch := try exact dd) [std, eci, ek, ecl]
   refine oc z7 ?_
   simp (config := sc) (disch := try exact dd) [std, eci, ek, ecl]
   refine oc z8 ?_
   simp (config := sc) (disch := try exact dd) [std, eci, ek, ecl]
   refine oc z9 ?_
   simp (config := sc) (disch := try exact dd) [std, eci, ek, ecl]
   refine oc kn ?_
   simp (config := sc) (disch := try exact dd) [std]
  ·simp (config := sc) (disch := try exact dd) [std]
   refine oc q ?_
   simp (config := sc) (disch := try exact dd) [std]
   refine oc p1 ?_
   simp (config := sc) (disch := try exact dd) [std]
   refine oc p2 ?_
   simp (config := sc) (disch := try exact dd) [std, h3, h4, h5]
   refine oc z5 ?_
   simp (config := sc) (disch := try exact dd) [std]
   refine oc z2 ?_
   simp (config := sc) (disch := try exact dd) [std]
   refine oc z3 ?_
   simp (config := sc) (disch := try exact dd) [std]
   refine oc z4 ?_
   simp (config := sc) (disch := try exact dd) [std, h5]
   refine oc z1 ?_
   simp (config := sc) (disch := try exact dd) [std, ek]
   refine oc z6 ?_
   simp (config := sc) (disch := try exact dd) [std, eci, ek, ecl, es, ey]
   refine oc z7 ?_
   simp (config := sc) (disch := try exact dd) [std, eci, ek, ecl, es, ey]
   refine oc z8 ?_
   simp (config := sc) (disch := try exact dd) [std, eci, ek, ecl, es, ey]
   refine oc z9 ?_
   simp (config := sc) (disch := try exact dd) [std, eci, ek, ecl, es, ey]
   refine oc z10 ?_
   simp (config := sc) (disch := try exact dd) [std, eci, ek, ecl, es, ey]
   refine oc kn ?_
   simp (config := sc) (disch := try exact dd) [std]
 ·rcases hC with ⟨rfl, _, _, _⟩ | ⟨ecl, rfl, _, _⟩ | ⟨ecl, rfl, ⟨es, ey⟩, ⟨_, rfl⟩⟩
  ·simp (config := sc) (disch := try exact dd) [std]
   refine oc q ?_
   simp (config := sc) (disch := try exact dd) [std]
   refine oc p1 ?_
   simp (config := sc) (disch := try exact dd) [std]
   refine oc p2 ?_
   simp (config := sc) (disch := try exact dd) [std, h3, h4, h5]
   refine oc z5 ?_
   simp (config := sc) (disch := try exact dd) [std]
   refine oc z2 ?_
   simp (config := sc) (disch := try exact dd) [std]
   refine oc z3 ?_
   simp (config := sc) (disch := try exact dd) [std]
   refine oc z4 ?_
   simp (config := sc) (disch := try exact dd) [std, h5]
   refine oc z1 ?_
   simp (config := sc) (disch := try exact dd) [std, ek]
   refine oc z6 ?_
   simp (config := sc) (disch := try exact dd) [std, e8, ek]
   refine oc z7 ?_
   simp (config := sc) (disch := try exact dd) [std, e8, ek]
   refine oc kn ?_
   simp (config := sc) (disch := try exact dd) [std]
  ·simp (config := sc) (disch := try exact dd) [std]
   refine oc q ?_
   simp (config := sc) (disch := try exact dd) [std]
   refine oc p1 ?_
   simp (config := sc) (disch := try exact dd) [std]
   refine oc p2 ?_
   simp (config := sc) (disch := try exact dd) [std, h3, h4, h5]
   refine oc z5 ?_
   simp (config := sc) (disch := try exact dd) [std]
   refine oc z2 ?_
   simp (config := sc) (disch := try exact dd) [std]
   refine oc z3 ?_
   simp (config := sc) (disch := try exact dd) [std]
   refine oc z4 ?_
   simp (config := sc) (disch := try exact dd) [std, h5]
   refine oc z1 ?_
   simp (config := sc) (disch := try exact dd) [std, ek]
   refine oc z6 ?_
   simp (config := sc) (disch := try exact dd) [std, e8, ek, ecl]
   refine oc z7 ?_
   simp (config := sc) (disch := try exact dd) [std, e8, ek, ecl]
   refine oc z8 ?_
   simp (config := sc) (disch := try exact dd) [std, e8, ek, ecl]
   refine oc z9 ?_
   simp (config := sc) (disch := try exact dd) [std, e8, ek, ecl]
   refine oc kn ?_
   simp (config := sc) (disch := try exact dd) [std]
  ·simp (config := sc) (disch := try exact dd) [std]
   refine oc q ?_
   simp (config := sc) (disch := try exact dd) [std]
   refine oc p1 ?_
   simp (config := sc) (disch := try exact dd) [std]
   refine oc p2 ?_
   simp (config := sc) (disch := try exact dd) [std, h3, h4, h5]
   refine oc z5 ?_
   simp (config := sc) (disch := try exact dd) [std]
   refine oc z2 ?_
   simp (config := sc) (disch := try exact dd) [std]
   refine oc z3 ?_
   simp (config := sc) (disch := try exact dd) [std]
   refine oc z4 ?_
   simp (config := sc) (disch := try exact dd) [std, h5]
   refine oc z1 ?_
   simp (config := sc) (disch := try exact dd) [std, ek]
   refine oc z6 ?_
   simp (config := sc) (disch := try exact dd) [std, e8, ek, ecl, es, ey]
   refine oc z7 ?_
   simp (config := sc) (disch := try exact dd) [std, e8, ek, ecl, es, ey]
   refine oc z8 ?_
   simp (config := sc) (disch := try exact dd) [std, e8, ek, ecl, es, ey]
   refine oc z9 ?_
   simp (config := sc) (disch := try exact dd) [std, e8, ek, ecl, es, ey]
   refine oc z10 ?_
   simp (config := sc) (disch := try exact dd) [std, e8, ek, ecl, es, ey]
   refine oc kn ?_
   simp (config := sc) (disch := try exact dd) [std]
 ·rcases hC with ⟨rfl, _, _, _⟩ | ⟨ecl, rfl, _, _⟩ | ⟨ecl, rfl, ⟨es, ey⟩, ⟨ek2, rfl⟩⟩
  ·simp (config := sc) (disch := try exact dd) [std]
   refine oc q ?_
   simp (config := sc) (disch := try exact dd) [std]
   refine oc p1 ?_
   simp (config := sc) (disch := try exact dd) [std]
   refine oc p2 ?_
   simp (config := sc) (disch := try exact dd) [std, h3, h4, h5]
   refine oc z5 ?_
   simp (config := sc) (disch := try exact dd) [std]
   refine oc z2 ?_
   simp (config := sc) (disch := try exact dd) [std]
   refine oc z3 ?_
   simp (config := sc) (disch := try exact dd) [std]
   refine oc z4 ?_
   simp (config := sc) (disch := try exact dd) [std, h5]
   refine oc z1 ?_
   simp (config := sc) (disch := try exact dd) [std, ek]
   refine oc z6 ?_
   simp (config := sc) (disch := try exact dd) [std, e8, ek]
   refine oc z6 ?_
   simp (config := sc) (disch := try exact dd) [std, e8, ek]
   refine oc z7 ?_
   simp (config := sc) (disch := try exact dd) [std, e8, ek]
   refine oc kn ?_
   simp (config := sc) (disch := try exact dd) [std]
  ·simp (config := sc) (disch := try exact dd) [std]
   refine oc q ?_
   simp (config := sc) (disch := try exact dd) [std]
   refine oc p1 ?_
   simp (config := sc) (disch := try exact dd) [std]
   refine oc p2 ?_
   simp (config := sc) (disch := try exact dd) [std, h3, h4, h5]
   refine oc z5 ?_
   simp (config := sc) (disch := try exact dd) [std]
   refine oc z2 ?_
   simp (config := sc) (disch := try exact dd) [std]
   refine oc z3 ?_
   simp (config := sc) (disch := try exact dd) [std]
   refine oc z4 ?_
   simp (config := sc) (disch := try exact dd) [std, h5]
   refine oc z1 ?_
   simp (config := sc) (disch := try exact dd) [std, ek]
   refine oc z6 ?_
   simp (config := sc) (disch := try exact dd) [std, e8, ek, ecl]
   refine oc z6 ?_
   simp (config := sc) (disch := try exact dd) [std, e8, ek, ecl]
   refine oc z7 ?_
   simp (config := sc) (disch := try exact dd) [std, e8, ek, ecl]
   refine oc z8 ?_
   simp (config := sc) (disch := try exact dd) [std, e8, ek, ecl]
   refine oc z9 ?_
   simp (config := sc) (disch := try exact dd) [std, e8, ek, ecl]
   refine oc kn ?_
   simp (config := sc) (disch := try exact dd) [std]
  ·rw [ek] at ek2; cases ek2
end Go.Proofs.YtnkmlhlegndlhaaGreat
