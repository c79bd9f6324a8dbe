/- Chapter 4's law on areas: options that stand in the file and in the name are read as those that stand behind the cookie, joined. -/
import Derived.Test.YtimlalndjfmnbaaDoorBytesB
namespace Go.Proofs.YtimlalndjfmnbaaDoor
open BoEng Go
set_option maxRecDepth 100000
attribute [-simp] List.map_take List.map_drop List.length_flatMap
set_option linter.unusedSimpArgs false
set_option linter.unusedVariables false

def zS (n : Nat) : List UInt8 := List.replicate n 0
theorem zS_len (n : Nat) : (zS n).length = n := List.length_replicate
theorem zS_app (m n : Nat) : zS (m + n) = zS m ++ zS n := by simp [zS, List.replicate_append_replicate]
theorem patch {h x y T b b1 : List UInt8} (hh : h.length = 44) (hx : x.length ≤ 128) (hy : y.length ≤ 64) (hb : b = h ++ (zS 192 ++ T)) (h1 : b1 = b.take 108 ++ x ++ b.drop (108 + x.length)) :
    b1.take 44 ++ y ++ b1.drop (44 + y.length) = h ++ (((y ++ zS (64 - y.length)) ++ (x ++ zS (128 - x.length))) ++ T) := by
  have e0 : b = (h ++ zS 64) ++ (zS x.length ++ (zS (128 - x.length) ++ T)) := by
    have e1 : zS 192 = zS 64 ++ (zS x.length ++ zS (128 - x.length)) := by rw [← zS_app, ← zS_app]; congr 1; omega
    rw [hb, e1]
    simp only [List.append_assoc]
  have e2 : b.take 108 = h ++ zS 64 := by rw [e0]; exact List.take_left' (by simp only [List.length_append, hh, zS_len]; try omega)
  have e3 : b.drop (108 + x.length) = zS (128 - x.length) ++ T := by
    rw [e0, ← List.append_assoc (h ++ zS 64)]
    exact List.drop_left' (by simp only [List.length_append, hh, zS_len]; try omega)
  rw [e2, e3] at h1
  have e4 : b1 = h ++ (zS y.length ++ (zS (64 - y.length) ++ (x ++ (zS (128 - x.length) ++ T)))) := by
    have e1 : zS 64 = zS y.length ++ zS (64 - y.length) := by rw [← zS_app]; congr 1; omega
    rw [h1, e1]
    simp only [List.append_assoc]
  have e5 : b1.take 44 = h := by rw [e4]; exact List.take_left' hh
  have e6 : b1.drop (44 + y.length) = zS (64 - y.length) ++ (x ++ (zS (128 - x.length) ++ T)) := by
    rw [e4, ← List.append_assoc h]
    exact List.drop_left' (by simp only [List.length_append, hh, zS_len]; try omega)
  rw [e5, e6]
  simp only [List.append_assoc]
theorem smallL_sized {l : List Opt} (h : smallL l = true) : sized l := by
  simp only [smallL, Bool.and_eq_true, decide_eq_true_eq, List.all_eq_true, smallO] at h
  refine ⟨by omega, fun o ho => ?_⟩
  have := h.1 o ho
  omega
theorem patch_len {b x : List UInt8} {n : Nat} (h : n + x.length ≤ b.length) : (b.take n ++ x ++ b.drop (n + x.length)).length = b.length := by
  simp only [List.length_append, List.length_take, List.length_drop]
  omega
theorem areas_read {m : Msg} {b1 b2 : List UInt8} {lf ln : List Opt} (hr : rightM m = true) (hf : rightO lf = true) (hn : rightO ln = true) (hf52 : findS lf 52 = none) (hn52 : findS ln 52 = none)
    (hx : (writeO lf).length ≤ 128) (hy : (writeO ln).length ≤ 64) (h60 : m.opts.length < 60) (hlen : (bytesS { m with opts := m.opts ++ [⟨52, [3]⟩] }).length ≤ 1500)
    (h1 : b1 = (bytesS { m with opts := m.opts ++ [⟨52, [3]⟩] }).take 108 ++ writeO lf ++ (bytesS { m with opts := m.opts ++ [⟨52, [3]⟩] }).drop (108 + (writeO lf).length))
    (h2 : b2 = b1.take 44 ++ writeO ln ++ b1.drop (44 + (writeO ln).length)) :
    b2.length ≤ 1500 ∧ rdM b2 = if (areasS m.opts lf ln).1 ≠ 0 then ((areasS m.opts lf ln).1, m0) else (0, { m with opts := (areasS m.opts lf ln).2 }) := by
  have hm := (rightM_n hr).l
  have hw : MsgL { m with opts := m.opts ++ [⟨52, [3]⟩] } := ⟨hm.op, hm.ht, hm.hl, hm.hp, hm.xid, hm.secs, hm.flags, hm.ci, hm.yi, hm.si, hm.gi, hm.ch⟩
  have hh4 := h44_len hw.ch
  obtain ⟨p, hp⟩ : ∃ p, p = zS (300 - (hdS { m with opts := m.opts ++ [⟨52, [3]⟩] }).length) := ⟨_, rfl⟩
  have hb : bytesS { m with opts := m.opts ++ [⟨52, [3]⟩] } = h44 { m with opts := m.opts ++ [⟨52, [3]⟩] } ++ (zS 192 ++ ([99, 130, 83, 99] ++ (writeO (m.opts ++ [⟨52, [3]⟩]) ++ p))) := by
    unfold bytesS
    conv => lhs; lhs; rw [hdS_eq]
    rw [hp]
    simp only [List.append_assoc]
    rfl
  have hp2 := patch hh4 hx hy hb h1
  rw [← h2] at hp2
  have hl2 : b2.length = (bytesS { m with opts := m.opts ++ [⟨52, [3]⟩] }).length := by
    rw [hp2, hb]
    simp [zS_len]
    omega
  refine ⟨by omega, ?_⟩
  have ho : optsS b2 = areasS m.opts lf ln := by
    refine areas (z := p) (z1 := zS (128 - (writeO lf).length)) (z2 := zS (64 - (writeO ln).length)) ?_ ?_ ?_ (rightM_n hr).ro (noOver hr) h60 hf hn hf52 hn52
    · have e : b2 = (h44 { m with opts := m.opts ++ [⟨52, [3]⟩] } ++ (((writeO ln ++ zS (64 - (writeO ln).length)) ++ (writeO lf ++ zS (128 - (writeO lf).length))) ++ [99, 130, 83, 99])) ++ (writeO (m.opts ++ [⟨52, [3]⟩]) ++ p) := by rw [hp2]; simp only [List.append_assoc]
      rw [e]
      exact List.drop_left' (by simp only [List.length_append, hh4, zS_len, List.length_cons, List.length_nil]; try omega)
    · have e : b2 = (h44 { m with opts := m.opts ++ [⟨52, [3]⟩] } ++ (writeO ln ++ zS (64 - (writeO ln).length))) ++ (writeO lf ++ zS (128 - (writeO lf).length)) ++ ([99, 130, 83, 99] ++ (writeO (m.opts ++ [⟨52, [3]⟩]) ++ p)) := by rw [hp2]; simp only [List.append_assoc]
      rw [e, List.take_left' (by simp only [List.length_append, hh4, zS_len, List.length_cons, List.length_nil]; try omega)]
      exact List.drop_left' (by simp only [List.length_append, hh4, zS_len, List.length_cons, List.length_nil]; try omega)
    · have e : b2 = h44 { m with opts := m.opts ++ [⟨52, [3]⟩] } ++ (writeO ln ++ zS (64 - (writeO ln).length)) ++ ((writeO lf ++ zS (128 - (writeO lf).length)) ++ ([99, 130, 83, 99] ++ (writeO (m.opts ++ [⟨52, [3]⟩]) ++ p))) := by rw [hp2]; simp only [List.append_assoc]
      rw [e, List.take_left' (by simp only [List.length_append, hh4, zS_len, List.length_cons, List.length_nil]; try omega)]
      exact List.drop_left' hh4
  rw [head_read hw (A := (writeO ln ++ zS (64 - (writeO ln).length)) ++ (writeO lf ++ zS (128 - (writeO lf).length))) (by simp [zS_len]; omega) hp2 (by omega), ho]
theorem bB_take (xs : List UInt8) (n : Nat) : (bB xs).take n = bB (xs.take n) := by unfold bB; rw [List.map_take, List.map_take]
theorem bB_drop (xs : List UInt8) (n : Nat) : (bB xs).drop n = bB (xs.drop n) := by unfold bB; rw [List.map_drop, List.map_drop]
theorem bB_over (b x : List UInt8) (n : Nat) : (bB b).take n ++ (x.map byteD).map .d ++ (bB b).drop (n + x.length) = bB (b.take n ++ x ++ b.drop (n + x.length)) := by rw [bB_take, bB_drop, bB_eq, bB_app, bB_app]
theorem bB_chunk (xs : List UInt8) : chunk 1 false xs.length (xs.map byteD) = xs.map byteD := by
  induction xs with
  | nil => rfl
  | cons x xs ih => simp only [List.length_cons, List.map_cons, chunk, List.take_succ_cons, List.take_zero, List.drop_succ_cons, List.drop_zero, ih]; rfl

set_option maxHeartbeats 4000000 in
theorem lawMAreas (m : Msg) (file name : List Opt) (hok : MsgOk m) (hlf : file.length ≤ 9223372036854775807) (hln : name.length ≤ 9223372036854775807) :
    Holds Tryd.prog 8 [.d m.d, .d (.slice (file.map Opt.d)), .d (.slice (name.map Opt.d))] (.d (.bool true)) (fun _ => false) := by
  refine Holds.by (by kernel_rfl) Tryd.func8 (by kernel_rfl) rfl [20003, 50015, 50026, 50055, 40067, 20112, 50083, 50098, 50058] (by simp) (by kernel_rfl) (by kernel_rfl) rfl ?_
  conv in ccs _ => cbv
  have g1 := great04 m (Nat.le_trans hok.2.2.1 maxLen_le4)
  have g2 := great03 file hlf
  have g3 := great03 name hln
  cases h1 : smallM m with
  | false =>
    rw [h1] at g1
    repeat' (first | (simp (config := sc) (disch := try exact dd) [*, std]) | (refine oc (g1) ?_) | (refine oc (knows4) ?_) | (refine sel_by ?_ ?_ <;> intro hc <;> have hc2 := hc <;> (try simp only [decide_eq_true_eq, decide_eq_false_iff_not, Bool.and_eq_true, Bool.or_eq_true, Bool.not_eq_true', Bool.not_eq_false', Bool.or_eq_false_iff, Bool.and_eq_false_iff] at hc2) <;> try omega) | (refine cnd_by ?_ ?_ <;> intro hc <;> have hc2 := hc <;> (try simp only [decide_eq_true_eq, decide_eq_false_iff_not, Bool.and_eq_true, Bool.or_eq_true, Bool.not_eq_true', Bool.not_eq_false', Bool.or_eq_false_iff, Bool.and_eq_false_iff] at hc2) <;> try omega) | (refine onSt_if (by omega) ?_) | (split <;> try omega) | omega)
  | true =>
  cases h2 : smallL file with
  | false =>
    rw [h1] at g1
    rw [h2] at g2
    repeat' (first | (simp (config := sc) (disch := try exact dd) [*, std]) | (refine oc (g1) ?_) | (refine oc (g2) ?_) | (refine oc (knows4) ?_) | (refine sel_by ?_ ?_ <;> intro hc <;> have hc2 := hc <;> (try simp only [decide_eq_true_eq, decide_eq_false_iff_not, Bool.and_eq_true, Bool.or_eq_true, Bool.not_eq_true', Bool.not_eq_false', Bool.or_eq_false_iff, Bool.and_eq_false_iff] at hc2) <;> try omega) | (refine cnd_by ?_ ?_ <;> intro hc <;> have hc2 := hc <;> (try simp only [decide_eq_true_eq, decide_eq_false_iff_not, Bool.and_eq_true, Bool.or_eq_true, Bool.not_eq_true', Bool.not_eq_false', Bool.or_eq_false_iff, Bool.and_eq_false_iff] at hc2) <;> try omega) | (refine onSt_if (by omega) ?_) | (split <;> try omega) | omega)
  | true =>
  cases h3 : smallL name with
  | false =>
    rw [h1] at g1
    rw [h2] at g2
    rw [h3] at g3
    repeat' (first | (simp (config := sc) (disch := try exact dd) [*, std]) | (refine oc (g1) ?_) | (refine oc (g2) ?_) | (refine oc (g3) ?_) | (refine oc (knows4) ?_) | (refine sel_by ?_ ?_ <;> intro hc <;> have hc2 := hc <;> (try simp only [decide_eq_true_eq, decide_eq_false_iff_not, Bool.and_eq_true, Bool.or_eq_true, Bool.not_eq_true', Bool.not_eq_false', Bool.or_eq_false_iff, Bool.and_eq_false_iff] at hc2) <;> try omega) | (refine cnd_by ?_ ?_ <;> intro hc <;> have hc2 := hc <;> (try simp only [decide_eq_true_eq, decide_eq_false_iff_not, Bool.and_eq_true, Bool.or_eq_true, Bool.not_eq_true', Bool.not_eq_false', Bool.or_eq_false_iff, Bool.and_eq_false_iff] at hc2) <;> try omega) | (refine onSt_if (by omega) ?_) | (split <;> try omega) | omega)
  | true =>
  rw [h1] at g1
  rw [h2] at g2
  rw [h3] at g3
  have hm := small_sized h1
  have hsf : sized file := smallL_sized h2
  have hsn : sized name := smallL_sized h3
  have a1 := lawAsM m
  have r1 := ref04Right m hm
  cases hr : rightM m with
  | false =>
    rw [hr] at r1
    repeat' (first | (simp (config := sc) (disch := try exact dd) [*, std]) | (refine oc (g1) ?_) | (refine oc (g2) ?_) | (refine oc (g3) ?_) | (refine oc (a1) ?_) | (refine oc (r1) ?_) | (refine oc (knows4) ?_) | (refine sel_by ?_ ?_ <;> intro hc <;> have hc2 := hc <;> (try simp only [decide_eq_true_eq, decide_eq_false_iff_not, Bool.and_eq_true, Bool.or_eq_true, Bool.not_eq_true', Bool.not_eq_false', Bool.or_eq_false_iff, Bool.and_eq_false_iff] at hc2) <;> try omega) | (refine cnd_by ?_ ?_ <;> intro hc <;> have hc2 := hc <;> (try simp only [decide_eq_true_eq, decide_eq_false_iff_not, Bool.and_eq_true, Bool.or_eq_true, Bool.not_eq_true', Bool.not_eq_false', Bool.or_eq_false_iff, Bool.and_eq_false_iff] at hc2) <;> try omega) | (refine onSt_if (by omega) ?_) | (split <;> try omega) | omega)
  | true =>
  rw [hr] at r1
  have o1 := ref03Right file hsf
  have o2 := ref03Right name hsn
  have o3 := ref03Has file 52 hsf
  have o4 := ref03Has name 52 hsn
  by_cases hg : rightO file = true ∧ rightO name = true ∧ hasN file 52 = 0 ∧ hasN name 52 = 0
  · obtain ⟨hf, hn, hf2, hn2⟩ := hg
    have hf52 : findS file 52 = none := by have := has_find file 52; rw [hf2] at this; simpa using this
    have hn52 : findS name 52 = none := by have := has_find name 52; rw [hn2] at this; simpa using this
    rw [hf] at o1
    rw [hn] at o2
    rw [hf2] at o3
    rw [hn2] at o4
    have w1 := ref03Write file hf
    have w2 := ref03Write name hn
    have hmn := rightM_n hr
    have hsz := right_sz hmn.ro
    have a2 := lawAsM { m with opts := m.opts ++ [⟨52, [3]⟩] }
    have hopl : (m.opts ++ [(⟨52, [3]⟩ : Opt)]).length ≤ 100 := by simp; omega
    have hopd : ∀ o ∈ m.opts ++ [(⟨52, [3]⟩ : Opt)], o.data.length ≤ 600 := fun o ho => by
      rcases List.mem_append.1 ho with h | h
      · exact hsz.2 o h
      · simp at h; subst h; simp
    have bq := fun gl => ref04BytesB { m with opts := m.opts ++ [⟨52, [3]⟩] } ⟨hmn.op, hmn.ht, hmn.hl, hmn.hp, hmn.xid, hmn.secs, hmn.flags, hmn.ci, hmn.yi, hmn.si, hmn.gi, hmn.ch⟩ hopl hopd (fo := FO + 1000) (gl := gl)
    have hwl := bytesS_len { m with opts := m.opts ++ [⟨52, [3]⟩] }
    have hxp : 0 < (writeO file).length := by simp [writeO]
    have hyp : 0 < (writeO name).length := by simp [writeO]
    generalize hb : bytesS { m with opts := m.opts ++ [⟨52, [3]⟩] } = b at *
    generalize 300 - (hdS { m with opts := m.opts ++ [⟨52, [3]⟩] }).length = pad at *
    generalize hx : writeO file = x at *
    generalize hy : writeO name = y at *
    have hopm : m.opts.length ≤ 60 := hsz.1
    have ew : Msg.d { m with opts := m.opts ++ [⟨52, [3]⟩] } = .agg [.int .i64 m.op, .int .i64 m.htype, .int .i64 m.hlen, .int .i64 m.hops, .int .i64 m.xid, .int .i64 m.secs, .int .i64 m.flags, .int .i64 m.ci, .int .i64 m.yi, .int .i64 m.si, .int .i64 m.gi, .slice (m.chaddr.map byteD), .slice (m.opts.map Opt.d ++ [.agg [.int .i64 52, .slice [.int .u8 3]]])] := by
      simp [Msg.d, Opt.d, byteD]
    rw [ew] at a2
    simp only [ew] at bq
    clear ew
    simp (config := sc) (disch := try exact dd) [std]
    refine oc g1 ?_
    simp (config := sc) (disch := try exact dd) [std]
    refine oc g2 ?_
    simp (config := sc) (disch := try exact dd) [std]
    refine oc g3 ?_
    simp (config := sc) (disch := try exact dd) [std]
    refine oc a1 ?_
    simp (config := sc) (disch := try exact dd) [std]
    refine oc r1 ?_
    simp (config := sc) (disch := try exact dd) [std]
    refine oc o1 ?_
    simp (config := sc) (disch := try exact dd) [std]
    refine oc o2 ?_
    simp (config := sc) (disch := try exact dd) [std]
    refine oc o3 ?_
    simp (config := sc) (disch := try exact dd) [std]
    refine oc o4 ?_
    simp (config := sc) (disch := try exact dd) [std]
    refine oc w1 ?_
    simp (config := sc) (disch := try exact dd) [std]
    refine oc w2 ?_
    simp (config := sc) (disch := try exact dd) [std]
    refine oc a2 ?_
    simp (config := sc) (disch := try exact dd) [std]
    refine o_cb (FO + 1000) rfl rfl (bq _) rfl (by simp (config := sc) (disch := try exact dd) [std]) ?_
    by_cases k1 : (128 : Int) < x.length
    · simp (config := sc) (disch := try exact dd) [std, yU, k1]
      refine oc knows4 ?_
      simp (config := sc) (disch := try exact dd) [std]
    by_cases k2 : (64 : Int) < y.length
    · simp (config := sc) (disch := try exact dd) [std, yU, k1, k2]
      refine oc knows4 ?_
      simp (config := sc) (disch := try exact dd) [std]
    by_cases k3 : (1500 : Int) < b.length
    · simp (config := sc) (disch := try exact dd) [std, yU, k1, k2, k3]
      refine oc knows4 ?_
      simp (config := sc) (disch := try exact dd) [std]
    by_cases k4 : (60 : Int) ≤ m.opts.length
    · simp (config := sc) (disch := try exact dd) [std, yU, k1, k2, k3, k4]
      refine oc knows4 ?_
      simp (config := sc) (disch := try exact dd) [std]
    have c1 : 108 ≤ b.length := by omega
    have c2 : 44 ≤ b.length := by omega
    have c3 : x.length ≤ b.length - 108 := by omega
    have c4 : y.length ≤ b.length - 44 := by omega
    have c5 : 108 + x.length ≤ b.length := by omega
    have c6 : 44 + y.length ≤ b.length := by omega
    have c7 : (108 : Int) ≤ b.length := by omega
    have c8 : (44 : Int) ≤ b.length := by omega
    simp (config := sc) (disch := try exact dd) [std, yU, k1, k2, k3, k4, c1, c2, c3, c4, c5, c6, c7, c8, isIt, hxp, hyp]
    have e1 : List.take 108 (bB b) ++ (List.map (PV.d ∘ byteD) x ++ List.drop (108 + x.length) (bB b)) = bB (b.take 108 ++ x ++ b.drop (108 + x.length)) := by
      rw [← bB_over, ← List.map_map, List.append_assoc]
    have l1 := patch_len (n := 108) c5
    obtain ⟨b1, hb1⟩ : ∃ b1, b1 = b.take 108 ++ x ++ b.drop (108 + x.length) := ⟨_, rfl⟩
    rw [← hb1] at e1 l1
    rw [e1]
    have e2 : List.take 44 (bB b1) ++ (List.map (PV.d ∘ byteD) y ++ List.drop (44 + y.length) (bB b1)) = bB (b1.take 44 ++ y ++ b1.drop (44 + y.length)) := by
      rw [← bB_over, ← List.map_map, List.append_assoc]
    have l2 := patch_len (b := b1) (x := y) (n := 44) (by omega)
    obtain ⟨b2, hb2⟩ : ∃ b2, b2 = b1.take 44 ++ y ++ b1.drop (44 + y.length) := ⟨_, rfl⟩
    rw [← hb2] at e2 l2
    rw [e2]
    have hth : toD (List.take b.length (bB b2)) = some (b2.map byteD) := by
      rw [List.take_of_length_le (by simp; omega), bB, toD_m]
    have hch : chunk 1 false b.length (b2.map byteD) = b2.map byteD := by
      have := bB_chunk b2
      rwa [show b2.length = b.length by omega] at this
    have hbl : (bB b2).length = b.length := by simp; omega
    subst hx hy hb
    obtain ⟨_, hrd⟩ := areas_read (m := m) hr hf hn hf52 hn52 (by omega) (by omega) (by omega) (by omega) hb1 hb2
    have q7 := msgReadN b2 (by omega)
    rw [hrd] at q7
    clear hrd e1 e2 hb1 hb2
    generalize bytesS { m with opts := m.opts ++ [⟨52, [3]⟩] } = b at *
    have j1 := ref03Join m.opts file hm.2 hsf
    have he1 := jnS_err m.opts file
    obtain ⟨ar, har⟩ : ∃ ar, ar = areasS m.opts file name := ⟨_, rfl⟩
    rw [← har] at q7
    unfold areasS at har
    generalize jnS m.opts file = p at *
    obtain ⟨e, want⟩ := p
    dsimp only at j1 he1 har
    by_cases h0 : e = 0
    · subst h0
      have hwr : rightO want = true := by
        rcases he1 with h | h
        · exact h.2
        · rcases h.1 with h | h <;> exact absurd h (by decide)
      obtain ⟨hw1, hw2⟩ := right_small hwr
      have j2 := ref03Join want name ⟨by omega, fun o ho => by have := hw2 o ho; omega⟩ hsn
      have he2 := jnS_err want name
      rw [if_neg (by simp)] at har
      generalize jnS want name = p at *
      obtain ⟨e, w2⟩ := p
      dsimp only at j2 he2
      subst har
      dsimp only at q7
      have hw3 : w2.length ≤ 60 := by
        rcases he2 with h | h
        · exact (right_small h.2).1
        · rw [h.2]; simp
      have s1 := same03 w2 (by omega)
      by_cases h0 : e = 0
      · subst h0
        rw [if_neg (by simp)] at q7
        refine oc j1 ?_
        simp (config := sc) (disch := try exact dd) [std]
        refine oc j2 ?_
        simp (config := sc) (disch := try exact dd) [std, thawB, hth, hch, hbl]
        refine oc q7 ?_
        simp (config := sc) (disch := try exact dd) [std]
        refine oc s1 ?_
        simp (config := sc) (disch := try exact dd) [std]
        refine oc knows4 ?_
        simp (config := sc) (disch := try exact dd) [std]
      · rw [if_pos h0] at q7
        obtain rfl : w2 = [] := by
          rcases he2 with h | h
          · exact absurd h.1 h0
          · exact h.2
        refine oc j1 ?_
        simp (config := sc) (disch := try exact dd) [std]
        refine oc j2 ?_
        simp (config := sc) (disch := try exact dd) [std, thawB, hth, hch, hbl, m0]
        refine oc q7 ?_
        simp (config := sc) (disch := try exact dd) [std, m0]
        refine oc s1 ?_
        simp (config := sc) (disch := try exact dd) [std, h0]
        refine oc knows4 ?_
        simp (config := sc) (disch := try exact dd) [std]
    · rw [if_pos h0] at har
      subst har
      dsimp only at q7
      obtain rfl : want = [] := by
        rcases he1 with h | h
        · exact absurd h.1 h0
        · exact h.2
      have s1 := same03 [] (by decide)
      rw [if_pos h0] at q7
      refine oc j1 ?_
      simp (config := sc) (disch := try exact dd) [std, h0, thawB, hth, hch, hbl, m0]
      refine oc q7 ?_
      simp (config := sc) (disch := try exact dd) [std, m0]
      refine oc s1 ?_
      simp (config := sc) (disch := try exact dd) [std, h0]
      refine oc knows4 ?_
      simp (config := sc) (disch := try exact dd) [std]
  · have p1 := (hasN_le file 52).1
    have p2 := (hasN_le name 52).1
    cases hf : rightO file with
    | false =>
      rw [hf] at o1
      repeat' (first | (simp (config := sc) (disch := try exact dd) [*, std]) | (refine oc (g1) ?_) | (refine oc (g2) ?_) | (refine oc (g3) ?_) | (refine oc (a1) ?_) | (refine oc (r1) ?_) | (refine oc (o1) ?_) | (refine oc (knows4) ?_) | (refine sel_by ?_ ?_ <;> intro hc <;> have hc2 := hc <;> (try simp only [decide_eq_true_eq, decide_eq_false_iff_not, Bool.and_eq_true, Bool.or_eq_true, Bool.not_eq_true', Bool.not_eq_false', Bool.or_eq_false_iff, Bool.and_eq_false_iff] at hc2) <;> try omega) | (refine cnd_by ?_ ?_ <;> intro hc <;> have hc2 := hc <;> (try simp only [decide_eq_true_eq, decide_eq_false_iff_not, Bool.and_eq_true, Bool.or_eq_true, Bool.not_eq_true', Bool.not_eq_false', Bool.or_eq_false_iff, Bool.and_eq_false_iff] at hc2) <;> try omega) | (refine onSt_if (by omega) ?_) | (split <;> try omega) | omega)
    | true =>
    cases hn : rightO name with
    | false =>
      rw [hf] at o1
      rw [hn] at o2
      repeat' (first | (simp (config := sc) (disch := try exact dd) [*, std]) | (refine oc (g1) ?_) | (refine oc (g2) ?_) | (refine oc (g3) ?_) | (refine oc (a1) ?_) | (refine oc (r1) ?_) | (refine oc (o1) ?_) | (refine oc (o2) ?_) | (refine oc (knows4) ?_) | (refine sel_by ?_ ?_ <;> intro hc <;> have hc2 := hc <;> (try simp only [decide_eq_true_eq, decide_eq_false_iff_not, Bool.and_eq_true, Bool.or_eq_true, Bool.not_eq_true', Bool.not_eq_false', Bool.or_eq_false_iff, Bool.and_eq_false_iff] at hc2) <;> try omega) | (refine cnd_by ?_ ?_ <;> intro hc <;> have hc2 := hc <;> (try simp only [decide_eq_true_eq, decide_eq_false_iff_not, Bool.and_eq_true, Bool.or_eq_true, Bool.not_eq_true', Bool.not_eq_false', Bool.or_eq_false_iff, Bool.and_eq_false_iff] at hc2) <;> try omega) | (refine onSt_if (by omega) ?_) | (split <;> try omega) | omega)
    | true =>
    rw [hf] at o1 hg
    rw [hn] at o2 hg
    by_cases c3 : hasN file 52 = 0
    · rw [c3] at o3
      have c4 : 0 < hasN name 52 := by
        have : ¬ hasN name 52 = 0 := fun h => hg ⟨rfl, rfl, c3, h⟩
        omega
      clear hg
      repeat' (first | (simp (config := sc) (disch := try exact dd) [*, std, c4]) | (refine oc (g1) ?_) | (refine oc (g2) ?_) | (refine oc (g3) ?_) | (refine oc (a1) ?_) | (refine oc (r1) ?_) | (refine oc (o1) ?_) | (refine oc (o2) ?_) | (refine oc (o3) ?_) | (refine oc (o4) ?_) | (refine oc (knows4) ?_) | (refine sel_by ?_ ?_ <;> intro hc <;> have hc2 := hc <;> (try simp only [decide_eq_true_eq, decide_eq_false_iff_not, Bool.and_eq_true, Bool.or_eq_true, Bool.not_eq_true', Bool.not_eq_false', Bool.or_eq_false_iff, Bool.and_eq_false_iff] at hc2) <;> try omega) | (refine cnd_by ?_ ?_ <;> intro hc <;> have hc2 := hc <;> (try simp only [decide_eq_true_eq, decide_eq_false_iff_not, Bool.and_eq_true, Bool.or_eq_true, Bool.not_eq_true', Bool.not_eq_false', Bool.or_eq_false_iff, Bool.and_eq_false_iff] at hc2) <;> try omega) | (refine onSt_if (by omega) ?_) | (split <;> try omega) | omega)
    · have c4 : 0 < hasN file 52 := by omega
      clear hg
      repeat' (first | (simp (config := sc) (disch := try exact dd) [*, std, c4]) | (refine oc (g1) ?_) | (refine oc (g2) ?_) | (refine oc (g3) ?_) | (refine oc (a1) ?_) | (refine oc (r1) ?_) | (refine oc (o1) ?_) | (refine oc (o2) ?_) | (refine oc (o3) ?_) | (refine oc (knows4) ?_) | (refine sel_by ?_ ?_ <;> intro hc <;> have hc2 := hc <;> (try simp only [decide_eq_true_eq, decide_eq_false_iff_not, Bool.and_eq_true, Bool.or_eq_true, Bool.not_eq_true', Bool.not_eq_false', Bool.or_eq_false_iff, Bool.and_eq_false_iff] at hc2) <;> try omega) | (refine cnd_by ?_ ?_ <;> intro hc <;> have hc2 := hc <;> (try simp only [decide_eq_true_eq, decide_eq_false_iff_not, Bool.and_eq_true, Bool.or_eq_true, Bool.not_eq_true', Bool.not_eq_false', Bool.or_eq_false_iff, Bool.and_eq_false_iff] at hc2) <;> try omega) | (refine onSt_if (by omega) ?_) | (split <;> try omega) | omega)
theorem opts_of {n : Nat} {x : DV} (h : typD Tryd.prog n 23 x) : ∃ os : List Opt, x = .slice (os.map Opt.d) ∧ os.length ≤ maxLen := by
  obtain ⟨ds, h, rfl⟩ := h
  obtain ⟨os, rfl, k13, k14⟩ := typC_slice und23 (fun n ds h => opt_of h) h
  exact ⟨os, by simp [mkD], k13⟩
end Go.Proofs.YtimlalndjfmnbaaDoor
