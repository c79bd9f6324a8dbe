/- The making of a reply, walked: in the program, and in the document's layer 18. -/
import Derived.Test.YtimlalndjfmnbaaDoorReply
namespace Go.Proofs.YtimlalndjfmnbaaDoor
open BoEng Go
set_option maxRecDepth 100000
attribute [-simp] List.map_take List.map_drop List.length_flatMap
set_option linter.unusedSimpArgs false
set_option linter.unusedVariables false

theorem mem_subsF : ∀ (k i : Nat) (l : List Sub) (j : Nat) (h : j < l.length), (⟨k, i + j, l[j]⟩ : Spot) ∈ subsF k i l
  | k, i, s :: l, 0, _ => by simp [subsF]
  | k, i, s :: l, j + 1, h => by
    have := mem_subsF k (i + 1) l j (by simpa using h)
    simp only [subsF, List.mem_cons, List.getElem_cons_succ]
    right
    rwa [show i + (j + 1) = i + 1 + j by omega]
theorem mem_spotsF : ∀ (k : Nat) (l : List Net) (n j : Nat) (h : n < l.length) (h2 : j < l[n].subs.length), (⟨k + n, j, l[n].subs[j]⟩ : Spot) ∈ spotsF k l
  | k, x :: l, 0, j, _, h2 => by
    simp only [spotsF, List.mem_append]
    left
    have := mem_subsF k 0 x.subs j (by simpa using h2)
    simpa using this
  | k, x :: l, n + 1, j, h, h2 => by
    simp only [spotsF, List.mem_append, List.getElem_cons_succ]
    right
    have := mem_spotsF (k + 1) l n j (by simpa using h) (by simpa using h2)
    rwa [show k + (n + 1) = k + 1 + n by omega]
theorem check_sub {c : Cfg} (h : checkS c = 0) {n j : Nat} (h1 : n < c.nets.length) (h2 : j < c.nets[n].subs.length) :
    rightA c.server = true ∧ fairS (c.nets[n].subs[j]) = true ∧ routeOk (c.nets[n].subs[j]) = true := by
  have hm : (⟨0 + n, j, c.nets[n].subs[j]⟩ : Spot) ∈ spotsS c := mem_spotsF 0 c.nets n j h1 h2
  unfold checkS at h
  split at h
  · rename_i hf
    split at h
    · rename_i hp
      simp only [formS, Bool.and_eq_true, List.all_eq_true] at hf
      simp only [placedS, List.all_eq_true] at hp
      have k1 := hf.2 _ hm
      have k2 := hp _ hm
      simp only [plX, placedX, Bool.and_eq_true] at k2
      exact ⟨hf.1.1.1.1, k1, k2.2⟩
    · cases h
  · cases h
theorem putOk4 {v : Int} (h0 : 0 ≤ v) (h1 : v ≤ 4294967295) : putOk v 4 = true := by
  simp only [putOk, decide_eq_true_eq]
  have : (256 : Int) ^ (4 : Int).toNat = 4294967296 := by decide
  omega
theorem or_flag {f : Int} (h : 0 ≤ f ∧ f ≤ 65535)  : BoEng.orI .i64 f 32768 = if f < 32768 then f + 32768 else f := by
  obtain ⟨n, rfl⟩ := Int.eq_ofNat_of_zero_le h.1
  unfold BoEng.orI
  have h1 : (BitVec.ofInt IntKind.i64.bits (n : Int)).toNat = n := by
    rw [bv_toNat (by omega) (by omega)]; omega
  have h2 : (BitVec.ofInt IntKind.i64.bits (32768 : Int)).toNat = 32768 := by
    rw [bv_toNat (by omega) (by omega)]; rfl
  rw [BitVec.toNat_or, h1, h2]
  by_cases hn : n < 32768
  · rw [if_pos (by omega), Nat.or_comm, or_low (n := 15) (by decide) (by omega), wrap_nat (by omega)]
    omega
  · rw [if_neg (by omega)]
    have e : n = 32768 ||| (n - 32768) := by
      rw [or_low (n := 15) (by decide) (by omega)]
      omega
    have e2 : n ||| 32768 = n := by
      conv => lhs; rw [e]
      rw [Nat.or_comm, ← Nat.or_assoc, Nat.or_self, ← e]
    rw [e2, wrap_nat (by omega)]

theorem replyNone (c : Cfg) (net sub : Int) (m : Msg) (kind yi : Int) (hc : sizedC c) (hm : sizedM m) (hf : fairR c net sub m kind yi = false) :
    Holds Tryd.prog 28 [.d c.d, .d (.int .i64 net), .d (.int .i64 sub), .d m.d, .d (.int .i64 kind), .d (.int .i64 yi)] (.tup [.d msg0.d, .d (.int .i64 1)]) (fun _ => false) := by
  refine Holds.by (by kernel_rfl) Tryd.func28 (by kernel_rfl) rfl [20006, 20009, 40049, 40053, 40078, 40089, 40100, 40107, 40109, 50029, 50030, 50031, 50032, 50033, 50034, 50035, 50036, 50038, 50039, 50041, 50042] (by simp) (by kernel_rfl) (by kernel_rfl) rfl ?_
  conv in ccs _ => cbv
  have q := replyFair c net sub m kind yi hc hm
  rw [hf] at q
  simp (config := sc) (disch := try exact dd) [std]
  refine oc q ?_
  simp (config := sc) (disch := try exact dd) [std, msg0]
def mkI (s : Sub) (m : Msg) (kind yi : Int) (o : Msg) (S : PS) : Prop :=
  S.t 4 = .d (.int .i64 kind) ∧ S.t 5 = .d (.int .i64 yi) ∧ S.t 9 = .cptr (cells m.d) ∧ S.t 12 = .ptr (FO + 12) 1 0 ∧ S.t 14 = .ptr (FO + 14) 1 0 ∧ S.t 15 = .fn 50 [.ptr (FO + 14) 1 0] ∧ S.t 16 = .fn 52 [.cptr (cells m.d), .ptr (FO + 14) 1 0] ∧
  S.t 17 = .ptr (FO + 17) 1 0 ∧ S.fo = FO ∧ S.gen (FO + 12) = 1 ∧ S.gen (FO + 14) = 1 ∧ S.gen (FO + 17) = 1 ∧ S.box (FO + 12) = (cells msg0.d).map .d ∧ S.box (FO + 14) = (cells o.d).map .d ∧ S.box (FO + 17) = (cells s.d).map .d
theorem sized_app {l : List Opt} {c : Int} {b : List UInt8} (h : sized l) (hl : l.length ≤ 10) (hb : b.length ≤ 1000) : l.length + 1 ≤ 100000 ∧ sized (l ++ [⟨c, b⟩]) := by
  refine ⟨by omega, by simp; omega, fun o ho => ?_⟩
  rcases List.mem_append.1 ho with h1 | h1
  · exact h.2 o h1
  · simp at h1; subst h1; simp; omega
theorem codes_app {l k : List Opt} {c : Int} (h1 : ∀ x ∈ l, x.code ≠ c) (h2 : ∀ x ∈ k, x.code ≠ c) : ∀ x ∈ l ++ k, x.code ≠ c := by
  intro x hx
  rcases List.mem_append.1 hx with h | h
  · exact h1 x h
  · exact h2 x h
theorem sized_cat {l k : List Opt} (h1 : sized l) (h2 : sized k) (hl : l.length + k.length ≤ 100000) : sized (l ++ k) := by
  refine ⟨by simp; omega, fun o ho => ?_⟩
  rcases List.mem_append.1 ho with h | h
  · exact h1.2 o h
  · exact h2.2 o h
theorem optT_ok (s : Sub) (yi : Int) : (optT s yi).length ≤ 1 ∧ sized (optT s yi) ∧ ∀ x ∈ optT s yi, x.code = 51 := by
  unfold optT
  split <;> simp [sized]
theorem optK_ok (s : Sub) (m : Msg) : (optK s m).length ≤ 1 ∧ sized (optK s m) ∧ ∀ x ∈ optK s m, x.code = 1 := by
  unfold optK
  split <;> simp [sized]
theorem optR_ok (s : Sub) (m : Msg) : (optR s m).length ≤ 1 ∧ sized (optR s m) ∧ ∀ x ∈ optR s m, x.code = 3 := by
  unfold optR
  split
  · simp [sized]
  · split <;> simp [sized]
theorem echo_ok {m : Msg} (c : Int) (h : rightM m = true) : (echoL m c).length ≤ 1 ∧ sized (echoL m c) ∧ ∀ x ∈ echoL m c, x.code = c := by
  have h1 := echoL_len (m := m) (c := c)
  refine ⟨h1, ⟨by omega, fun o ho => ?_⟩, echoL_code⟩
  have := echoL_data h o ho
  omega
theorem code_ne {l : List Opt} {a b : Int} (h : ∀ x ∈ l, x.code = a) (hab : a ≠ b) : ∀ x ∈ l, x.code ≠ b := fun x hx => by rw [h x hx]; exact hab
theorem optM_ok (s : Sub) (m : Msg) (kind yi : Int) : (optM s m kind yi).length ≤ 3 ∧ sized (optM s m kind yi) ∧ ∀ x ∈ optM s m kind yi, x.code = 51 ∨ x.code = 1 ∨ x.code = 3 := by
  obtain ⟨a1, a2, a3⟩ := optT_ok s yi
  obtain ⟨b1, b2, b3⟩ := optK_ok s m
  obtain ⟨c1, c2, c3⟩ := optR_ok s m
  unfold optM
  split
  · simp [sized]
  · refine ⟨by simp; omega, sized_cat (sized_cat a2 b2 (by omega)) c2 (by simp; omega), fun x hx => ?_⟩
    rcases List.mem_append.1 hx with h | h
    · rcases List.mem_append.1 h with h | h
      · exact .inl (a3 x h)
      · exact .inr (.inl (b3 x h))
    · exact .inr (.inr (c3 x h))
theorem replyMake (c : Cfg) (net sub : Int) (m : Msg) (kind yi : Int) (hc : sizedC c) (hm : sizedM m) {s : Sub} (hf : fairR c net sub m kind yi = true) (hs : subC c net sub = some s) :
    Holds Tryd.prog 28 [.d c.d, .d (.int .i64 net), .d (.int .i64 sub), .d m.d, .d (.int .i64 kind), .d (.int .i64 yi)] (.tup [.d (makeM c s m kind yi).d, .d (.int .i64 0)]) (fun _ => false) := by
  refine Holds.by (by kernel_rfl) Tryd.func28 (by kernel_rfl) rfl [20006, 20009, 40049, 40053, 40078, 40089, 40100, 40107, 40109, 50029, 50030, 50031, 50032, 50033, 50034, 50035, 50036, 50038, 50039, 50041, 50042] (by simp) (by kernel_rfl) (by kernel_rfl) rfl ?_
  conv in ccs _ => cbv
  have q := replyFair c net sub m kind yi hc hm
  rw [hf] at q
  obtain ⟨hck, n, k, hn, hk, rfl, rfl, hs2, hr, hyi, hkd⟩ := fairR_parts hf
  rw [hs] at hs2
  cases hs2
  have hn' : (n : Int) < c.nets.length := by omega
  have hk' : (k : Int) < c.nets[n].subs.length := by omega
  obtain ⟨hsv, hfs, hro⟩ := check_sub hck hn hk
  have hkd := kind_iff.1 hkd
  have hsv := rightA_iff.1 hsv
  have hyi := rightA_iff.1 hyi
  have hso := hc.1
  have hfl : 0 ≤ m.flags ∧ m.flags ≤ 65535 := by
    simp only [rightM, Bool.and_eq_true, decide_eq_true_eq] at hr
    exact hr.1.1.1.1.1.1.1.2
  have hch : m.chaddr.length = 16 := by
    simp only [rightM, Bool.and_eq_true, decide_eq_true_eq] at hr
    exact hr.1.1.2
  have hno := (hc.2 _ (List.getElem_mem hn)).1
  generalize hx : c.nets[n].subs[k] = s at *
  simp only [fairS, Bool.and_eq_true, decide_eq_true_eq] at hfs
  obtain ⟨⟨⟨⟨⟨⟨⟨f1, f2⟩, _⟩, _⟩, _⟩, f3⟩, _⟩, _⟩ := hfs
  have hsz := sizeA_le (show 0 ≤ s.bits by omega)
  have hsp := sizeA_pos s.bits
  have hrt : s.router ≠ 0 → 0 ≤ s.router ∧ s.router ≤ 4294967295 := by
    intro h
    simp only [routeOk, Bool.or_eq_true, decide_eq_true_eq, hasA_iff] at hro
    rcases hro with h1 | h1
    · exact absurd h1 h
    · exact h1.2.1
  obtain ⟨o0, ho0⟩ : ∃ o0 : Msg, o0 = ⟨2, m.htype, m.hlen, 0, m.xid, 0, m.flags, 0, yi, 0, m.gi, m.chaddr, []⟩ := ⟨_, rfl⟩
  have z1 := fun gl => replySet o0 53 kind 1 (by simp [sized, ho0]) (by rcases hkd with h | h | h <;> subst h <;> rfl) (by simp [ho0]) (FO + 14) 1 (by omega) (fo := FO + 1000) (gl := gl)
  have z2 := fun gl => replySet (setM o0 53 kind 1) 54 c.server 4 (by simp [sized, ho0, setM]) (by simp [setOk, putOk4 hsv.1 hsv.2]) (by simp [ho0, setM]) (FO + 14) 1 (by omega) (fo := FO + 1000) (gl := gl)
  simp (config := sc) (disch := try exact dd) [std]
  refine oc q ?_
  simp (config := sc) (disch := try exact dd) [std]
  refine o_cb (FO + 1000) rfl rfl (z1 _) rfl (by simp (config := sc) (disch := try exact dd) [std, ho0]) ?_
  simp (config := sc) (disch := try exact dd) [std, setM, ho0]
  refine o_cb (FO + 1000) rfl rfl (z2 _) rfl (by simp (config := sc) (disch := try exact dd) [std, ho0, setM]) ?_
  simp (config := sc) (disch := try exact dd) [std, setM, ho0, hx]
  clear z1 z2 ho0 o0
  refine cnd_join (mkI s m kind yi { makeM c s m kind yi with ci := 0, opts := optB c s m kind yi }) ?_ ?_ ?_
  · intro h6
    simp only [decide_eq_true_eq] at h6
    subst h6
    by_cases hg : m.gi = 0
    · simp (config := sc) (disch := try exact dd) [std, hg, mkI, makeM, flagR, optB, optM, msg0]
    · have ho := or_flag hfl
      by_cases hb : m.flags < 32768
      · rw [if_pos hb] at ho
        simp (config := sc) (disch := try exact dd) [std, hg, mkI, makeM, flagR, optB, optM, msg0, hb, ho]
      · rw [if_neg hb] at ho
        simp (config := sc) (disch := try exact dd) [std, hg, mkI, makeM, flagR, optB, optM, msg0, hb, ho]
  · intro h6
    simp only [decide_eq_false_iff_not] at h6
    obtain ⟨B, hB⟩ : ∃ B : List Opt, B = [⟨53, putI kind 1⟩, ⟨54, putI c.server 4⟩] := ⟨_, rfl⟩
    have hBs : B.length = 2 ∧ sized B ∧ ∀ x ∈ B, x.code = 53 ∨ x.code = 54 := by subst hB; simp [sized]
    have hBm : B.map Opt.d = [Opt.d ⟨53, putI kind 1⟩, Opt.d ⟨54, putI c.server 4⟩] := by subst hB; rfl
    obtain ⟨M, hM⟩ : ∃ M : List Opt → Msg, M = fun l => ⟨2, m.htype, m.hlen, 0, m.xid, 0, m.flags, 0, yi, 0, m.gi, m.chaddr, l⟩ := ⟨_, rfl⟩
    have hMo : ∀ l, (M l).opts = l := fun l => by rw [hM]
    have hMs : ∀ l c v n, setM (M l) c v n = M (l ++ [⟨c, putI v n⟩]) := fun l c v n => by rw [hM]; rfl
    have hMd : ∀ l, (M l).d = (⟨2, m.htype, m.hlen, 0, m.xid, 0, m.flags, 0, yi, 0, m.gi, m.chaddr, l⟩ : Msg).d := fun l => by rw [hM]
    obtain ⟨t1, t2, t3⟩ := optT_ok s yi
    obtain ⟨r1, r2, r3⟩ := optK_ok s m
    obtain ⟨L1, hL1⟩ : ∃ L, L = B ++ optT s yi := ⟨_, rfl⟩
    obtain ⟨L2, hL2⟩ : ∃ L, L = L1 ++ optK s m := ⟨_, rfl⟩
    obtain ⟨L3, hL3⟩ : ∃ L, L = L2 ++ optR s m := ⟨_, rfl⟩
    have hfin : ({ makeM c s m kind yi with ci := 0, opts := optB c s m kind yi } : Msg) = M L3 := by
      rw [hM, hL3, hL2, hL1, hB]
      simp [makeM, flagR, optB, optM, h6]
    rw [hfin]
    have w0 : sized B ∧ (∀ x ∈ B, x.code ≠ 51) := ⟨hBs.2.1, fun x hx => by rcases hBs.2.2 x hx with h | h <;> omega⟩
    have w1 : L1.length ≤ 3 ∧ sized L1 ∧ (∀ x ∈ L1, x.code ≠ 1) ∧ (∀ x ∈ L1, x.code ≠ 3) := by
      subst hL1
      refine ⟨by simp; omega, sized_cat hBs.2.1 t2 (by omega), codes_app (fun x hx => ?_) (code_ne t3 (by decide)), codes_app (fun x hx => ?_) (code_ne t3 (by decide))⟩ <;> rcases hBs.2.2 x hx with h | h <;> omega
    have w2 : sized L2 ∧ (∀ x ∈ L2, x.code ≠ 3) := by
      subst hL2
      exact ⟨sized_cat w1.2.1 r2 (by omega), codes_app w1.2.2.2 (code_ne r3 (by decide))⟩
    have z3 := fun gl => replySet (M B) 51 s.time 4 (by rw [hMo]; exact w0.1) (by simp [setOk, putOk4 (v := s.time) (by omega) (by omega)]) (by rw [hMo]; exact w0.2) (FO + 14) 1 (by omega) (fo := FO + 1000) (gl := gl)
    have z4 := fun gl => replySet (M L1) 1 (maskA s.bits) 4 (by rw [hMo]; exact w1.2.1) (by simp [setOk, putOk4 (v := maskA s.bits) (by unfold maskA; omega) (by unfold maskA; omega)]) (by rw [hMo]; exact w1.2.2.1) (FO + 14) 1 (by omega) (fo := FO + 1000) (gl := gl)
    simp only [hMs] at z3 z4
    have q3 := replyAsked m 1 hm
    have q4 := replyAsked m 3 hm
    have q5 := addrMaskOf s.bits
    rw [if_pos (show 0 ≤ s.bits ∧ s.bits ≤ 32 by omega), if_pos (show 0 ≤ s.bits ∧ s.bits ≤ 32 by omega)] at q5
    simp (config := sc) (disch := try exact dd) [std]
    refine cnd_join (mkI s m kind yi (M L1)) ?_ ?_ ?_
    · intro h7
      simp only [Bool.not_eq_true', decide_eq_false_iff_not] at h7
      have hl : L1 = B ++ [⟨51, putI s.time 4⟩] := by rw [hL1]; simp [optT, h7]
      rw [hl]
      simp (config := sc) (disch := try exact dd) [std]
      refine o_cb (FO + 1000) rfl rfl (z3 _) rfl (by simp (config := sc) (disch := try exact dd) [std, hM, hBm]) ?_
      simp (config := sc) (disch := try exact dd) [std, mkI, hM, hBm, msg0]
    · intro h7
      simp only [Bool.not_eq_false', decide_eq_true_eq] at h7
      have hl : L1 = B := by rw [hL1]; simp [optT, h7]
      rw [hl]
      simp (config := sc) (disch := try exact dd) [std, mkI, hM, hBm, msg0]
    · clear z3 hBm
      rintro S ⟨e4, e5, e9, e12, e14, e15, e16, e17, efo, g12, g14, g17, b12, b14, b17⟩
      simp only [hM, Msg.d_eq, Sub.d_eq, cells_agg, List.map_cons, List.map_nil] at b12 b14 b17
      simp (config := sc) (disch := try exact dd) [std, e4, e5, e9, e12, e14, e15, e16, e17, efo, g12, g14, g17, b12, b14, b17]
      refine oc q3 ?_
      simp (config := sc) (disch := try exact dd) [std, e4, e5, e9, e12, e14, e15, e16, e17, efo, g12, g14, g17, b12, b14, b17]
      refine cnd_join (mkI s m kind yi (M L2)) ?_ ?_ ?_
      · intro h7
        have hl : L2 = L1 ++ [⟨1, putI (maskA s.bits) 4⟩] := by rw [hL2]; simp [optK, h7]
        rw [hl]
        simp (config := sc) (disch := try exact dd) [std, e4, e5, e9, e12, e14, e15, e16, e17, efo, g12, g14, g17, b12, b14, b17]
        refine oc q5 ?_
        simp (config := sc) (disch := try exact dd) [std, e4, e5, e9, e12, e14, e15, e16, e17, efo, g12, g14, g17, b12, b14, b17]
        refine o_cb (FO + 1000) rfl rfl (z4 _) rfl (by simp (config := sc) (disch := try exact dd) [std, e4, e5, e9, e12, e14, e15, e16, e17, efo, g12, g14, g17, b12, b14, b17, hM]) ?_
        simp (config := sc) (disch := try exact dd) [std, e4, e5, e9, e12, e14, e15, e16, e17, efo, g12, g14, g17, b12, b14, b17, mkI, hM, msg0]
      · intro h7
        have hl : L2 = L1 := by rw [hL2]; simp [optK, h7]
        rw [hl]
        simp (config := sc) (disch := try exact dd) [std, e4, e5, e9, e12, e14, e15, e16, e17, efo, g12, g14, g17, b12, b14, b17, mkI, hM, msg0]
      · clear z4 e4 e5 e9 e12 e14 e15 e16 e17 efo g12 g14 g17 b12 b14 b17
        rintro S ⟨e4, e5, e9, e12, e14, e15, e16, e17, efo, g12, g14, g17, b12, b14, b17⟩
        simp only [hM, Msg.d_eq, Sub.d_eq, cells_agg, List.map_cons, List.map_nil] at b12 b14 b17
        by_cases h7 : s.router = 0
        · have hl : L3 = L2 := by rw [hL3]; simp [optR, h7]
          rw [hl]
          simp (config := sc) (disch := try exact dd) [std, e4, e5, e9, e12, e14, e15, e16, e17, efo, g12, g14, g17, b12, b14, b17, h7, mkI, hM, msg0]
        · have z6 := fun gl => replySet (M L2) 3 s.router 4 (by rw [hMo]; exact w2.1) (by simp [setOk, putOk4 (hrt h7).1 (hrt h7).2]) (by rw [hMo]; exact w2.2) (FO + 14) 1 (by omega) (fo := FO + 1000) (gl := gl)
          simp only [hMs] at z6
          simp (config := sc) (disch := try exact dd) [std, e4, e5, e9, e12, e14, e15, e16, e17, efo, g12, g14, g17, b12, b14, b17, h7]
          refine oc q4 ?_
          simp (config := sc) (disch := try exact dd) [std, e4, e5, e9, e12, e14, e15, e16, e17, efo, g12, g14, g17, b12, b14, b17, h7]
          refine cnd_join (mkI s m kind yi (M L3)) ?_ ?_ ?_
          · intro h8
            have hl : L3 = L2 ++ [⟨3, putI s.router 4⟩] := by rw [hL3]; simp [optR, h7, h8]
            rw [hl]
            simp (config := sc) (disch := try exact dd) [std, e4, e5, e9, e12, e14, e15, e16, e17, efo, g12, g14, g17, b12, b14, b17]
            refine o_cb (FO + 1000) rfl rfl (z6 _) rfl (by simp (config := sc) (disch := try exact dd) [std, e4, e5, e9, e12, e14, e15, e16, e17, efo, g12, g14, g17, b12, b14, b17, hM]) ?_
            simp (config := sc) (disch := try exact dd) [std, e4, e5, e9, e12, e14, e15, e16, e17, efo, g12, g14, g17, b12, b14, b17, mkI, hM, msg0]
          · intro h8
            have hl : L3 = L2 := by rw [hL3]; simp [optR, h7, h8]
            rw [hl]
            simp (config := sc) (disch := try exact dd) [std, e4, e5, e9, e12, e14, e15, e16, e17, efo, g12, g14, g17, b12, b14, b17, mkI, hM, msg0]
          · intro S hS
            simp (config := sc) (disch := try exact dd) [std]
            exact hS
  · rintro S ⟨e4, e5, e9, e12, e14, e15, e16, e17, efo, g12, g14, g17, b12, b14, b17⟩
    simp only [Msg.d_eq, Sub.d_eq, cells_agg, List.map_cons, List.map_nil] at b12 b14 b17
    obtain ⟨N, hN⟩ : ∃ N : List Opt → Msg, N = fun l => ({ makeM c s m kind yi with opts := l } : Msg) := ⟨_, rfl⟩
    have hNo : ∀ l, (N l).opts = l := fun l => by rw [hN]
    have hNe : ∀ l c, echoM (N l) m c = N (l ++ echoL m c) := fun l c => by rw [hN]; rfl
    have hNd : ∀ l, (N l).d = (⟨2, m.htype, m.hlen, 0, m.xid, 0, flagR m kind, if kind = 5 then m.ci else 0, if kind = 6 then 0 else yi, 0, m.gi, m.chaddr, l⟩ : Msg).d := fun l => by rw [hN]; rfl
    have hfin : makeM c s m kind yi = N (optB c s m kind yi ++ echoL m 61 ++ echoL m 82) := by rw [hN]; rfl
    rw [hfin]
    obtain ⟨m1, m2, m3⟩ := optM_ok s m kind yi
    obtain ⟨n1, n2, n3⟩ := echo_ok (m := m) 61 hr
    have hB : (optB c s m kind yi).length ≤ 5 ∧ sized (optB c s m kind yi) ∧ ∀ x ∈ optB c s m kind yi, x.code = 53 ∨ x.code = 54 ∨ x.code = 51 ∨ x.code = 1 ∨ x.code = 3 := by
      unfold optB
      refine ⟨by simp; omega, sized_cat (by simp [sized]) m2 (by simp; omega), fun x hx => ?_⟩
      rcases List.mem_append.1 hx with h | h
      · simp at h
        rcases h with h | h <;> subst h <;> simp
      · rcases m3 x h with h | h | h <;> simp [h]
    generalize optB c s m kind yi = B at *
    have z7 := fun gl => replyEcho (N B) m 61 (by rw [hNo]; exact hB.2.1) hm hr (by omega) (by rw [hNo]; intro x hx; rcases hB.2.2 x hx with h | h | h | h | h <;> omega) (FO + 14) 1 (by omega) (fo := FO + 1000) (gl := gl)
    have z8 := fun gl => replyEcho (N (B ++ echoL m 61)) m 82 (by rw [hNo]; exact sized_cat hB.2.1 n2 (by omega)) hm hr (by omega) (by rw [hNo]; exact codes_app (fun x hx => by rcases hB.2.2 x hx with h | h | h | h | h <;> omega) (code_ne n3 (by decide))) (FO + 14) 1 (by omega) (fo := FO + 1000) (gl := gl)
    simp only [hNe] at z7 z8
    by_cases h5 : kind = 5
    · simp (config := sc) (disch := try exact dd) [std, e4, e5, e9, e12, e14, e15, e16, e17, efo, g12, g14, g17, b12, b14, b17, h5]
      refine o_cb (FO + 1000) rfl rfl (z7 _) rfl (by simp (config := sc) (disch := try exact dd) [std, e4, e5, e9, e12, e14, e15, e16, e17, efo, g12, g14, g17, b12, b14, b17, hN, makeM, h5]) ?_
      simp (config := sc) (disch := try exact dd) [std, e4, e5, e9, e12, e14, e15, e16, e17, efo, g12, g14, g17, b12, b14, b17, h5]
      refine o_cb (FO + 1000) rfl rfl (z8 _) rfl (by simp (config := sc) (disch := try exact dd) [std, e4, e5, e9, e12, e14, e15, e16, e17, efo, g12, g14, g17, b12, b14, b17, hN, makeM, h5]) ?_
      simp (config := sc) (disch := try exact dd) [std, e4, e5, e9, e12, e14, e15, e16, e17, efo, g12, g14, g17, b12, b14, b17, h5, hN, makeM]
    · simp (config := sc) (disch := try exact dd) [std, e4, e5, e9, e12, e14, e15, e16, e17, efo, g12, g14, g17, b12, b14, b17, h5]
      refine o_cb (FO + 1000) rfl rfl (z7 _) rfl (by simp (config := sc) (disch := try exact dd) [std, e4, e5, e9, e12, e14, e15, e16, e17, efo, g12, g14, g17, b12, b14, b17, hN, makeM, h5]) ?_
      simp (config := sc) (disch := try exact dd) [std, e4, e5, e9, e12, e14, e15, e16, e17, efo, g12, g14, g17, b12, b14, b17, h5]
      refine o_cb (FO + 1000) rfl rfl (z8 _) rfl (by simp (config := sc) (disch := try exact dd) [std, e4, e5, e9, e12, e14, e15, e16, e17, efo, g12, g14, g17, b12, b14, b17, hN, makeM, h5]) ?_
      simp (config := sc) (disch := try exact dd) [std, e4, e5, e9, e12, e14, e15, e16, e17, efo, g12, g14, g17, b12, b14, b17, h5, hN, makeM]

end Go.Proofs.YtimlalndjfmnbaaDoor
