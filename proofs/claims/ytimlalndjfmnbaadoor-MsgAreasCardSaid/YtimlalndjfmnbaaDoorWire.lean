/- Messages as bytes: what tlv.Write, msg.Write and the document's layers 3 and 4 answer. -/
import Derived.Test.YtimlalndjfmnbaaDoorMsgR
import Derived.Test.YtimlalndjfmnbaaDoorOpts
namespace Go.Proofs.YtimlalndjfmnbaaDoor
open BoEng Go
set_option maxRecDepth 100000
attribute [-simp] List.map_take List.map_drop List.length_flatMap
set_option linter.unusedSimpArgs false
set_option linter.unusedVariables false

/-- The bytes of one option. -/
def oneW (c : Int) (d : List UInt8) : List UInt8 := if h : 255 < d.length then lowB c :: 255 :: (d.take 255 ++ oneW c (d.drop 255)) else lowB c :: lowB d.length :: d
termination_by d.length
decreasing_by simp; omega
theorem oneS_gt {c : Int} {d : List UInt8} (h : 255 < d.length) : oneW c d = lowB c :: 255 :: (d.take 255 ++ oneW c (d.drop 255)) := by rw [oneW, dif_pos h]
theorem oneS_le {c : Int} {d : List UInt8} (h : ¬ 255 < d.length) : oneW c d = lowB c :: lowB d.length :: d := by rw [oneW, dif_neg h]
theorem oneS_len (c : Int) : ∀ (n : Nat) (d : List UInt8), d.length ≤ n → (oneW c d).length ≤ 2 * d.length + 2 := by
  intro n
  induction n with
  | zero => intro d h; rw [oneS_le (by omega)]; simp; omega
  | succ n ih =>
    intro d h
    by_cases hd : 255 < d.length
    · have := ih (d.drop 255) (by simp; omega)
      rw [oneS_gt hd]
      simp only [List.length_cons, List.length_append, List.length_take, List.length_drop] at this ⊢
      omega
    · rw [oneS_le hd]; simp; omega
def optB1 (o : Opt) : List UInt8 := oneW o.code o.data
def writeO (l : List Opt) : List UInt8 := l.flatMap optB1 ++ [255]
theorem right_sz {l : List Opt} (h : rightO l = true) : l.length ≤ 60 ∧ ∀ o ∈ l, o.data.length ≤ 600 := by
  simp only [rightO, Bool.and_eq_true, List.all_eq_true, okO, decide_eq_true_eq] at h
  exact ⟨h.1.1, fun o ho => (h.1.2 o ho).2⟩
theorem flatB_len {l : List Opt} (h : ∀ o ∈ l, o.data.length ≤ 600) : (l.flatMap optB1).length ≤ l.length * 1202 := by
  induction l with
  | nil => simp
  | cons o l ih =>
    have h1 := oneS_len o.code o.data.length o.data (Nat.le_refl _)
    have h2 := h o List.mem_cons_self
    have h3 := ih fun x hx => h x (List.mem_cons_of_mem _ hx)
    simp only [List.flatMap_cons, List.length_append, List.length_cons, optB1] at h3 ⊢
    omega
theorem lowB_255 : lowB (255 : Int) = 255 := by decide

theorem ref03One (c : Int) : ∀ (n : Nat) (d : List UInt8), d.length ≤ n → n ≤ 100000 → Holds Tryd.prog 44 [.d (.int .i64 c), .d (.slice (d.map byteD))] (.d (.slice ((oneW c d).map byteD))) (fun _ => false) := by
  intro n
  induction n with
  | zero =>
    intro d hd hn
    refine Holds.by (by kernel_rfl) Tryd.func44 (by kernel_rfl) rfl [] (by simp) (by kernel_rfl) (by kernel_rfl) rfl ?_
    conv in ccs _ => cbv
    have k : ¬ (255 : Int) < d.length := by omega
    rw [oneS_le (by omega)]
    simp (config := sc) (disch := try exact dd) [std, k, u8_wrapB]
  | succ n ih =>
    intro d hd hn
    refine Holds.by (by kernel_rfl) Tryd.func44 (by kernel_rfl) rfl [] (by simp) (by kernel_rfl) (by kernel_rfl) rfl ?_
    conv in ccs _ => cbv
    by_cases h : 255 < d.length
    · have k : (255 : Int) < d.length := by omega
      have q := ih (d.drop 255) (by simp; omega) (by omega)
      have hl := oneS_len c (d.drop 255).length (d.drop 255) (Nat.le_refl _)
      simp only [List.length_drop] at hl
      rw [oneS_gt h]
      generalize oneW c (d.drop 255) = r at *
      simp (config := sc) (disch := try exact dd) [std, k, u8_wrapB]
      refine oc q ?_
      simp (config := sc) (disch := try exact dd) [std, k, u8_wrapB]
      done
    · have k : ¬ (255 : Int) < d.length := by omega
      rw [oneS_le h]
      simp (config := sc) (disch := try exact dd) [std, k, u8_wrapB]

def w3I (l : List Opt) (i : Nat) (S : PS) : Prop :=
  i ≤ l.length ∧ S.t 0 = .d (.slice (l.map Opt.d)) ∧ S.t 3 = .d (.slice (((l.take i).flatMap optB1).map byteD)) ∧ S.own (.t 3 0) = true ∧ S.t 4 = .d (.int .i64 i)
theorem ref03WriteL (l : List Opt) (hl : l.length ≤ 100) (hd : ∀ o ∈ l, o.data.length ≤ 600) : Holds Tryd.prog 23 [.d (.slice (l.map Opt.d))] (.d (.slice ((writeO l).map byteD))) (fun _ => false) := by
  refine Holds.by (by kernel_rfl) Tryd.func23 (by kernel_rfl) rfl [11, 24] (by simp) (by kernel_rfl) (by kernel_rfl) rfl ?_
  conv in ccs _ => cbv
  unfold writeO
  simp (config := sc) (disch := try exact dd) [std]
  refine lp (w3I l) (fun i => l.length - i) 0 ⟨by omega, by simp, by simp, by simp, by simp⟩ ?_
  rintro i S ⟨hi, e0, e3, o3, e4⟩
  by_cases hlt : i < l.length
  · have k6 : (i : Int) < l.length := by omega
    have hz := hd _ (List.getElem_mem hlt)
    have q := ref03One l[i].code 600 l[i].data hz (by omega)
    have hs := @flatM_take _ _ optB1 l i hlt
    have hb1 : optB1 l[i] = oneW l[i].code l[i].data := rfl
    have ho := oneS_len l[i].code 600 l[i].data hz
    have hf := flatB_len (l := l.take i) fun o h => hd o (List.mem_of_mem_take h)
    simp only [List.length_take] at hf
    rw [hb1] at hs
    generalize (l.take i).flatMap optB1 = F at *
    simp (config := sc) (disch := try exact dd) [std, e0, e3, o3, e4, k6]
    refine oc q ?_
    simp (config := sc) (disch := try exact dd) [std, e0, e3, o3, e4, k6]
    exact nxt_of (i + 1) ⟨by omega, by simp (config := sc) (disch := try exact dd) [std, e0], by rw [hs]; simp (config := sc) (disch := try exact dd) [std, e3], by simp (config := sc) (disch := try exact dd) [std, o3], by simp (config := sc) (disch := try exact dd) [std]⟩ (by omega)
  · have k6 : ¬ (i : Int) < l.length := by omega
    have hf := flatB_len (l := l) fun o h => hd o h
    rw [List.take_of_length_le (by omega)] at e3
    simp (config := sc) (disch := try exact dd) [std, e0, e3, o3, e4, k6]

theorem ref03Write (l : List Opt) (hr : rightO l = true) : Holds Tryd.prog 23 [.d (.slice (l.map Opt.d))] (.d (.slice ((writeO l).map byteD))) (fun _ => false) := ref03WriteL l (by have := (right_sz hr).1; omega) (right_sz hr).2

def tailS (c : Int) (f : Bool) (r : List UInt8) : List UInt8 := if f = false ∧ r = [] then [] else oneW c r
def w2I (l : List Opt) (i : Nat) (S : PS) : Prop :=
  i ≤ l.length ∧ S.t 4 = .d (.slice (((l.take i).flatMap optB1).map byteD)) ∧ S.own (.t 4 0) = true ∧ S.t 13 = .d (.slice (l.map Opt.d)) ∧ S.t 14 = .d (.int .i64 l.length) ∧ S.t 15 = .d (.int .i64 i)
def w2J (l : List Opt) (i : Nat) (F : List UInt8) (o : Opt) (fo g : Nat) (p : List UInt8 × List UInt8 × Bool) (S : PS) : Prop :=
  p.1 ++ tailS o.code p.2.2 p.2.1 = oneW o.code o.data ∧ p.2.1.length ≤ o.data.length ∧ S.t 4 = .d (.slice ((F ++ p.1).map byteD)) ∧ S.own (.t 4 0) = true ∧ S.t 13 = .d (.slice (l.map Opt.d)) ∧ S.t 14 = .d (.int .i64 l.length) ∧ S.t 15 = .d (.int .i64 i) ∧
  S.t 6 = .ptr (fo + 6) g 0 ∧ S.fo = fo ∧ S.gen (fo + 6) = g ∧ S.box (fo + 6) = (cells o.d).map .d ∧ S.t 7 = .d (.slice (p.2.1.map byteD)) ∧ S.t 8 = .d (.bool p.2.2)
theorem tail_step (c : Int) (f : Bool) (r : List UInt8) (h : ¬ (f = false ∧ r = [])) :
    tailS c f r = (lowB c :: lowB (min (r.length : Int) 255) :: r.take (min r.length 255)) ++ tailS c false (r.drop (min r.length 255)) := by
  unfold tailS
  rw [if_neg h]
  by_cases hr : 255 < r.length
  · have e1 : min r.length 255 = 255 := by omega
    have e2 : min (r.length : Int) 255 = 255 := by omega
    rw [e1, e2, oneS_gt hr, if_neg (fun hh => by have := congrArg List.length hh.2; simp at this; omega), lowB_255]
    rfl
  · have e1 : min r.length 255 = r.length := by omega
    have e2 : min (r.length : Int) 255 = r.length := by omega
    rw [e1, e2, oneS_le hr, if_pos ⟨rfl, List.drop_length⟩, List.take_length, List.append_nil]
set_option maxHeartbeats 1000000 in
theorem tlvWrite (l : List Opt) (hl : sized l) : Holds Tryd.prog 36 [.d (.slice (l.map Opt.d))] (.tup [.d (.slice ((if rightO l = true then writeO l else []).map byteD)), .d (.int .i64 (if rightO l = true then 0 else 1))]) (fun _ => false) := by
  refine Holds.by (by kernel_rfl) Tryd.func36 (by kernel_rfl) rfl [30, 46] (by simp) (by kernel_rfl) (by kernel_rfl) rfl ?_
  conv in ccs _ => cbv
  have q := tlvRight l hl
  cases hr : rightO l with
  | false =>
    rw [hr] at q
    simp (config := sc) (disch := try exact dd) [std]
    refine oc q ?_
    simp (config := sc) (disch := try exact dd) [std]
  | true =>
    rw [hr] at q
    obtain ⟨hl6, hd⟩ := right_sz hr
    unfold writeO
    simp (config := sc) (disch := try exact dd) [std]
    refine oc q ?_
    simp (config := sc) (disch := try exact dd) [std]
    refine lp (w2I l) (fun i => l.length - i) 0 ⟨by omega, by simp, by simp, by simp, by simp, by simp⟩ ?_
    rintro i S ⟨hi, e4, o4, e13, e14, e15⟩
    by_cases hlt : i < l.length
    · have k6 : (i : Int) < l.length := by omega
      have hz := hd _ (List.getElem_mem hlt)
      have hs := @flatM_take _ _ optB1 l i hlt
      have hb1 : optB1 l[i] = oneW l[i].code l[i].data := rfl
      have ho := oneS_len l[i].code 600 l[i].data hz
      have hf := flatB_len (l := l.take i) fun o h => hd o (List.mem_of_mem_take h)
      simp only [List.length_take] at hf
      have hnn : nth l (i : Int) = l[i] := nth_nat hlt
      rw [hb1] at hs
      generalize (l.take i).flatMap optB1 = F at *
      generalize l[i] = o at *
      simp (config := sc) (disch := try exact dd) [std, e4, o4, e13, e14, e15, k6, hnn]
      refine lp (w2J l i F o S.fo (S.gen (S.fo + 6) + 1)) (fun p => p.2.1.length + (if p.2.2 = true then 1 else 0)) ([], o.data, true) ⟨by simp [tailS], by simp, by simp (config := sc) (disch := try exact dd) [std, e4], by simp (config := sc) (disch := try exact dd) [std, o4], by simp (config := sc) (disch := try exact dd) [std, e13], by simp (config := sc) (disch := try exact dd) [std, e14], by simp (config := sc) (disch := try exact dd) [std, e15], by simp (config := sc) (disch := try exact dd) [std], by simp (config := sc) (disch := try exact dd) [std], by simp (config := sc) (disch := try exact dd) [std], by simp (config := sc) (disch := try exact dd) [std], by simp (config := sc) (disch := try exact dd) [std], by simp (config := sc) (disch := try exact dd) [std]⟩ ?_
      clear e4 o4 e13 e14 e15
      rintro ⟨P, R, f⟩ S1 ⟨hP, hR, e4, o4, e13, e14, e15, e6, efo, eg, eb, e7, e8⟩
      simp only at hP hR e4 e7 e8
      simp only [Opt.d_eq, cells_agg, List.map_cons, List.map_nil] at eb
      have hPl : P.length ≤ (oneW o.code o.data).length := by rw [← hP]; simp
      by_cases hst : f = false ∧ R = []
      · obtain ⟨rfl, rfl⟩ := hst
        have hP2 : P = oneW o.code o.data := by rw [← hP]; simp [tailS]
        subst hP2
        simp (config := sc) (disch := try exact dd) [std, e4, o4, e13, e14, e15, e6, efo, eg, eb, e7, e8]
        exact nxt_of (i + 1) ⟨by omega, by rw [hs]; simp (config := sc) (disch := try exact dd) [std, e4], by simp (config := sc) (disch := try exact dd) [std, o4], by simp (config := sc) (disch := try exact dd) [std, e13], by simp (config := sc) (disch := try exact dd) [std, e14], by simp (config := sc) (disch := try exact dd) [std]⟩ (by omega)
      · have hts := tail_step o.code f R hst
        rw [hts, ← List.append_assoc] at hP
        have hmn : min (R.length : Int) 255 = ((min R.length 255 : Nat) : Int) := by omega
        have hmi : (if (255 : Int) < R.length then (255 : Int) else R.length) = ((min R.length 255 : Nat) : Int) := by split <;> omega
        have hmt : min R.length 255 ≤ R.length := by omega
        have hmx : min R.length 255 ≤ 255 := by omega
        have hmz : R ≠ [] → 0 < min R.length 255 := fun h => by have := List.length_pos_iff.2 h; omega
        rw [hmn] at hP
        generalize min R.length 255 = n at *
        have hgo : f = true ∨ (f = false ∧ (0 : Int) < R.length) := by
          cases f with
          | true => exact .inl rfl
          | false => exact .inr ⟨rfl, by have := List.length_pos_iff.2 (fun h : R = [] => hst ⟨rfl, h⟩); omega⟩
        have hdec : R.length - n + 0 < R.length + (if f = true then 1 else 0) := by
          rcases hgo with h | ⟨h, h2⟩
          · rw [if_pos h]; omega
          · have := hmz (fun e => by rw [e] at h2; simp at h2)
            omega
        clear hst hts hmz
        rcases hgo with rfl | ⟨rfl, hp0⟩
        · simp (config := sc) (disch := try exact dd) [std, e4, o4, e13, e14, e15, e6, efo, eg, eb, e7, e8, hmi, u8_wrapB]
          exact nxt_of (P ++ (lowB o.code :: lowB n :: R.take n), R.drop n, false) ⟨by simpa using hP, by simp; omega, by simp (config := sc) (disch := try exact dd) [std, e4], by simp (config := sc) (disch := try exact dd) [std, o4], by simp (config := sc) (disch := try exact dd) [std, e13], by simp (config := sc) (disch := try exact dd) [std, e14], by simp (config := sc) (disch := try exact dd) [std, e15], by simp (config := sc) (disch := try exact dd) [std, e6], by simp (config := sc) (disch := try exact dd) [std, efo], by simp (config := sc) (disch := try exact dd) [std, eg], by simp (config := sc) (disch := try exact dd) [std, eb], by simp (config := sc) (disch := try exact dd) [std], by simp (config := sc) (disch := try exact dd) [std]⟩ (by simpa using hdec)
        · simp (config := sc) (disch := try exact dd) [std, e4, o4, e13, e14, e15, e6, efo, eg, eb, e7, e8, hmi, hp0, u8_wrapB]
          exact nxt_of (P ++ (lowB o.code :: lowB n :: R.take n), R.drop n, false) ⟨by simpa using hP, by simp; omega, by simp (config := sc) (disch := try exact dd) [std, e4], by simp (config := sc) (disch := try exact dd) [std, o4], by simp (config := sc) (disch := try exact dd) [std, e13], by simp (config := sc) (disch := try exact dd) [std, e14], by simp (config := sc) (disch := try exact dd) [std, e15], by simp (config := sc) (disch := try exact dd) [std, e6], by simp (config := sc) (disch := try exact dd) [std, efo], by simp (config := sc) (disch := try exact dd) [std, eg], by simp (config := sc) (disch := try exact dd) [std, eb], by simp (config := sc) (disch := try exact dd) [std], by simp (config := sc) (disch := try exact dd) [std]⟩ (by simpa using hdec)
    · have k6 : ¬ (i : Int) < l.length := by omega
      have hf := flatB_len (l := l) fun o h => hd o h
      rw [List.take_of_length_le (by omega)] at e4
      simp (config := sc) (disch := try exact dd) [std, e4, o4, e13, e14, e15, k6]

def hdS (m : Msg) : List UInt8 := [m.op, m.htype, m.hlen, m.hops].flatMap (fun v => putI v 1) ++ putI m.xid 4 ++ putI m.secs 2 ++ putI m.flags 2 ++ [m.ci, m.yi, m.si, m.gi].flatMap (fun v => putI v 4) ++ m.chaddr ++ List.replicate 192 0 ++ [99, 130, 83, 99] ++ writeO m.opts
def bytesS (m : Msg) : List UInt8 := hdS m ++ List.replicate (300 - (hdS m).length) 0
def writeM (m : Msg) : List UInt8 × Int := if rightM m = false then ([], 1) else if 1500 < (hdS m).length then ([], 3) else (bytesS m, 0)
structure MsgN (m : Msg) : Prop where
  op : 0 ≤ m.op ∧ m.op ≤ 255
  ht : 0 ≤ m.htype ∧ m.htype ≤ 255
  hl : 0 ≤ m.hlen ∧ m.hlen ≤ 16
  hp : 0 ≤ m.hops ∧ m.hops ≤ 255
  xid : 0 ≤ m.xid ∧ m.xid ≤ 4294967295
  secs : 0 ≤ m.secs ∧ m.secs ≤ 65535
  flags : 0 ≤ m.flags ∧ m.flags ≤ 65535
  ci : 0 ≤ m.ci ∧ m.ci ≤ 4294967295
  yi : 0 ≤ m.yi ∧ m.yi ≤ 4294967295
  si : 0 ≤ m.si ∧ m.si ≤ 4294967295
  gi : 0 ≤ m.gi ∧ m.gi ≤ 4294967295
  ch : m.chaddr.length = 16
  ro : rightO m.opts = true
theorem rightM_n {m : Msg} (h : rightM m = true) : MsgN m := by
  simp only [rightM, Bool.and_eq_true, decide_eq_true_eq] at h
  obtain ⟨⟨⟨⟨⟨⟨⟨⟨⟨⟨⟨⟨⟨h1, h2⟩, h3⟩, h4⟩, h5⟩, h6⟩, h7⟩, h8⟩, h9⟩, h10⟩, h11⟩, h12⟩, h13⟩, _⟩ := h
  exact ⟨h1, h2, h3, h4, rightA_iff.1 h5, h6, h7, rightA_iff.1 h8, rightA_iff.1 h9, rightA_iff.1 h10, rightA_iff.1 h11, h12, h13⟩

def b4I (m : Msg) (A : List UInt8) (i : Nat) (S : PS) : Prop :=
  i ≤ 192 ∧ S.t 1 = .cptr (cells m.d) ∧ S.t 3 = .d (.slice ((A ++ List.replicate i 0).map byteD)) ∧ S.own (.t 3 0) = true ∧ S.t 4 = .d (.int .i64 i)
def b4J (A : List UInt8) (n : Nat) (i : Nat) (S : PS) : Prop :=
  i ≤ n ∧ S.t 3 = .d (.slice ((A ++ List.replicate i 0).map byteD)) ∧ S.own (.t 3 0) = true
set_option maxHeartbeats 2000000 in
theorem ref04Bytes (m : Msg) (hr : rightM m = true) : Holds Tryd.prog 16 [.d m.d] (.d (.slice ((bytesS m).map byteD))) (fun _ => false) := by
  refine Holds.by (by kernel_rfl) Tryd.func16 (by kernel_rfl) rfl [20001, 5, 20, 25, 30, 35, 40, 45, 50, 55, 63, 66, 69, 77, 80] (by simp) (by kernel_rfl) (by kernel_rfl) rfl ?_
  conv in ccs _ => cbv
  have hn := rightM_n hr
  have p4 := fun v h0 h1 => ref02PutI 4 v (by omega) h0 h1
  have p2 := fun v h0 h1 => ref02PutI 2 v (by omega) h0 h1
  have q1 := p4 m.xid hn.xid.1 (by have := hn.xid.2; omega)
  have q2 := p2 m.secs hn.secs.1 (by have := hn.secs.2; omega)
  have q3 := p2 m.flags hn.flags.1 (by have := hn.flags.2; omega)
  have q4 := p4 m.ci hn.ci.1 (by have := hn.ci.2; omega)
  have q5 := p4 m.yi hn.yi.1 (by have := hn.yi.2; omega)
  have q6 := p4 m.si hn.si.1 (by have := hn.si.2; omega)
  have q7 := p4 m.gi hn.gi.1 (by have := hn.gi.2; omega)
  have q8 := ref03Write m.opts hn.ro
  have hch := hn.ch
  have hw : (writeO m.opts).length ≤ 72121 := by
    obtain ⟨h1, h2⟩ := right_sz hn.ro
    have := flatB_len h2
    simp only [writeO, List.length_append, List.length_cons, List.length_nil]
    omega
  obtain ⟨A, hA⟩ : ∃ A, A = [m.op, m.htype, m.hlen, m.hops].flatMap (fun v => putI v 1) ++ putI m.xid 4 ++ putI m.secs 2 ++ putI m.flags 2 ++ [m.ci, m.yi, m.si, m.gi].flatMap (fun v => putI v 4) ++ m.chaddr := ⟨_, rfl⟩
  have hAl : A.length = 44 := by rw [hA]; simp [hch]
  have hH : hdS m = A ++ List.replicate 192 0 ++ [99, 130, 83, 99] ++ writeO m.opts := by rw [hA]; rfl
  have hHl : (hdS m).length ≤ 80000 := by rw [hH]; simp; omega
  simp (config := sc) (disch := try exact dd) [std, u8_wrapB]
  refine oc q1 ?_
  simp (config := sc) (disch := try exact dd) [std]
  refine oc q2 ?_
  simp (config := sc) (disch := try exact dd) [std]
  refine oc q3 ?_
  simp (config := sc) (disch := try exact dd) [std]
  refine oc q4 ?_
  simp (config := sc) (disch := try exact dd) [std]
  refine oc q5 ?_
  simp (config := sc) (disch := try exact dd) [std]
  refine oc q6 ?_
  simp (config := sc) (disch := try exact dd) [std]
  refine oc q7 ?_
  simp (config := sc) (disch := try exact dd) [std]
  refine lp (b4I m A) (fun i => 192 - i) 0 ⟨by omega, by simp (config := sc) (disch := try exact dd) [std], by simp (config := sc) (disch := try exact dd) [std, hA, putI], by simp (config := sc) (disch := try exact dd) [std], by simp (config := sc) (disch := try exact dd) [std]⟩ ?_
  clear q1 q2 q3 q4 q5 q6 q7 hA
  rintro i S ⟨hi, e1, e3, o3, e4⟩
  by_cases hlt : i < 192
  · have k6 : (i : Int) < 192 := by omega
    have hrs : List.replicate (i + 1) (0 : UInt8) = List.replicate i 0 ++ [0] := List.replicate_succ'
    have hrl : (List.replicate i (0 : UInt8)).length = i := List.length_replicate
    generalize List.replicate i (0 : UInt8) = R at *
    simp (config := sc) (disch := try exact dd) [std, e1, e3, o3, e4, k6]
    exact nxt_of (i + 1) ⟨by omega, by simp (config := sc) (disch := try exact dd) [std, e1], by rw [hrs]; simp (config := sc) (disch := try exact dd) [std, e3], by simp (config := sc) (disch := try exact dd) [std, o3], by simp (config := sc) (disch := try exact dd) [std]⟩ (by omega)
  · have k6 : ¬ (i : Int) < 192 := by omega
    obtain rfl : i = 192 := by omega
    unfold bytesS
    generalize hdS m = H at *
    have hZl : (List.replicate 192 (0 : UInt8)).length = 192 := List.length_replicate
    generalize List.replicate 192 (0 : UInt8) = Z at *
    simp (config := sc) (disch := try exact dd) [std, e1, e3, o3, e4]
    refine oc q8 ?_
    simp (config := sc) (disch := try exact dd) [std]
    refine lp (b4J H (300 - H.length)) (fun i => 300 - H.length - i) 0 ⟨by omega, by rw [hH]; simp (config := sc) (disch := try exact dd) [std], by simp (config := sc) (disch := try exact dd) [std]⟩ ?_
    clear e1 e3 o3 e4
    rintro i S ⟨hi, e3, o3⟩
    by_cases hlt : i < 300 - H.length
    · have k7 : (H.length : Int) + i < 300 := by omega
      have hrs : List.replicate (i + 1) (0 : UInt8) = List.replicate i 0 ++ [0] := List.replicate_succ'
      have hrl : (List.replicate i (0 : UInt8)).length = i := List.length_replicate
      generalize List.replicate i (0 : UInt8) = R at *
      have k7 : (H.length : Int) + R.length < 300 := by omega
      simp (config := sc) (disch := try exact dd) [std, e3, o3, k7]
      exact nxt_of (i + 1) ⟨by omega, by rw [hrs]; simp (config := sc) (disch := try exact dd) [std, e3], by simp (config := sc) (disch := try exact dd) [std, o3]⟩ (by omega)
    · have k7 : ¬ (H.length : Int) + i < 300 := by omega
      obtain rfl : i = 300 - H.length := by omega
      simp (config := sc) (disch := try exact dd) [std, e3, o3, k7]

theorem msgPut (v : Int) (n : Nat) (hk : putOk v n = true) (no g : Nat) {fo : Nat} {gl : Nat → Nat} (hno : no < fo) (hg : 0 < g) (xs : List UInt8) (hx : xs.length ≤ 100000) :
    Meets Tryd.prog fo gl 34 [.d (.int .i64 v), .d (.int .i64 n), .ptr no g 0] [⟨no, g, [.d (.slice (xs.map byteD))], fun k => k == 0⟩] (.tup []) (fun _ => false) [⟨no, g, [.d (.slice ((xs ++ putI v n).map byteD))], fun k => k == 0⟩] := by
  refine Meets.by (by kernel_rfl) Tryd.func34 (by kernel_rfl) rfl [13] (by simp) (by kernel_rfl) (by kernel_rfl) (by simp [namesIn, namesL, hg]) (by simp [namesIn, namesL, hg]) (by simp [hg]) ?_
  conv in ccs _ => cbv
  have hk1 : ∀ k, (no = fo + k) = False := fun k => by simp; omega
  have hk2 : ∀ k, (fo + k = no) = False := fun k => by simp; omega
  have q := codePut v n
  rw [hk, if_pos rfl, if_pos rfl, Int.toNat_natCast] at q
  have hpl := putI_len n v
  have hn : n ≤ 7 := by simp only [putOk, decide_eq_true_eq] at hk; omega
  simp (config := sc) (disch := try exact dd) [std, hk1, hk2]
  refine oc q ?_
  simp (config := sc) (disch := try exact dd) [std, hk1, hk2]
  done
theorem putOk1 {v : Int} (h : 0 ≤ v ∧ v ≤ 255) : putOk v 1 = true := by
  have : (256 : Int) ^ (1 : Int).toNat = 256 := by decide
  simp only [putOk, decide_eq_true_eq, this]
  omega
theorem putOk2 {v : Int} (h : 0 ≤ v ∧ v ≤ 65535) : putOk v 2 = true := by
  have : (256 : Int) ^ (2 : Int).toNat = 65536 := by decide
  simp only [putOk, decide_eq_true_eq, this]
  omega
theorem putOk4' {v : Int} (h : 0 ≤ v ∧ v ≤ 4294967295) : putOk v 4 = true := by
  have : (256 : Int) ^ (4 : Int).toNat = 4294967296 := by decide
  simp only [putOk, decide_eq_true_eq, this]
  omega
def wBox (xs : List UInt8) (S : PS) : Prop := S.t 4 = .ptr (FO + 4) 1 0 ∧ S.t 5 = .fn 34 [.ptr (FO + 4) 1 0] ∧ S.fo = FO ∧ S.gen (FO + 4) = 1 ∧ S.box (FO + 4) = [.d (.slice (xs.map byteD))] ∧ S.own (.b (FO + 4) 0) = true
def wrI1 (m : Msg) (i : Nat) (S : PS) : Prop :=
  i ≤ 4 ∧ S.t 1 = .cptr (cells m.d) ∧ wBox (([m.op, m.htype, m.hlen, m.hops].take i).flatMap (fun v => putI v 1)) S ∧ S.t 24 = .d (.slice [.int .i64 m.op, .int .i64 m.htype, .int .i64 m.hlen, .int .i64 m.hops]) ∧ S.t 25 = .d (.int .i64 4) ∧ S.t 26 = .d (.int .i64 i)
def wrI2 (m : Msg) (A : List UInt8) (i : Nat) (S : PS) : Prop :=
  i ≤ 4 ∧ S.t 1 = .cptr (cells m.d) ∧ wBox (A ++ ([m.ci, m.yi, m.si, m.gi].take i).flatMap (fun v => putI v 4)) S ∧ S.t 54 = .d (.slice [.int .i64 m.ci, .int .i64 m.yi, .int .i64 m.si, .int .i64 m.gi]) ∧ S.t 55 = .d (.int .i64 4) ∧ S.t 56 = .d (.int .i64 i)
set_option maxHeartbeats 4000000 in
theorem msgWrite (m : Msg) (hm : sizedM m) : Holds Tryd.prog 15 [.d m.d] (.tup [.d (.slice ((writeM m).1.map byteD)), .d (.int .i64 (writeM m).2)]) (fun _ => false) := by
  refine Holds.by (by kernel_rfl) Tryd.func15 (by kernel_rfl) rfl [20001, 40032, 40037, 40041, 40045, 40062, 40071, 64, 68, 78, 87] (by simp) (by kernel_rfl) (by kernel_rfl) rfl ?_
  conv in ccs _ => cbv
  have q := msgRight m hm
  unfold writeM
  cases hr : rightM m with
  | false =>
    rw [hr] at q
    simp (config := sc) (disch := try exact dd) [std]
    refine oc q ?_
    simp (config := sc) (disch := try exact dd) [std]
  | true =>
    rw [hr] at q
    rw [if_neg (by decide)]
    have hn := rightM_n hr
    simp (config := sc) (disch := try exact dd) [std]
    refine oc q ?_
    simp (config := sc) (disch := try exact dd) [std]
    refine lp (wrI1 m) (fun i => 4 - i) 0 ⟨by omega, by simp (config := sc) (disch := try exact dd) [std], ⟨by simp (config := sc) (disch := try exact dd) [std], by simp (config := sc) (disch := try exact dd) [std], by simp (config := sc) (disch := try exact dd) [std], by simp (config := sc) (disch := try exact dd) [std], by simp (config := sc) (disch := try exact dd) [std], by simp (config := sc) (disch := try exact dd) [std]⟩, by simp (config := sc) (disch := try exact dd) [std], by simp (config := sc) (disch := try exact dd) [std], by simp (config := sc) (disch := try exact dd) [std]⟩ ?_
    rintro i S ⟨hi, e1, ⟨e4, e5, efo, eg, eb, eo⟩, e24, e25, e26⟩
    by_cases hlt : i < 4
    · have hx : ∃ x, [m.op, m.htype, m.hlen, m.hops][i]? = some x ∧ ([DV.int .i64 m.op, .int .i64 m.htype, .int .i64 m.hlen, .int .i64 m.hops])[i]? = some (.int .i64 x) ∧ (0 ≤ x ∧ x ≤ 255) := by
        match i, hlt with
        | 0, _ => exact ⟨m.op, rfl, rfl, hn.op⟩
        | 1, _ => exact ⟨m.htype, rfl, rfl, hn.ht⟩
        | 2, _ => exact ⟨m.hlen, rfl, rfl, by have := hn.hl; omega⟩
        | 3, _ => exact ⟨m.hops, rfl, rfl, hn.hp⟩
      obtain ⟨x, hx1, hx2, hx3⟩ := hx
      have hs : ([m.op, m.htype, m.hlen, m.hops].take (i + 1)).flatMap (fun v => putI v 1) = ([m.op, m.htype, m.hlen, m.hops].take i).flatMap (fun v => putI v 1) ++ putI x 1 := by
        rw [List.take_add_one, hx1, List.flatMap_append]; simp
      have hl4 : (([m.op, m.htype, m.hlen, m.hops].take i).flatMap (fun v => putI v 1)).length ≤ 100 := by
        match i, hlt with
        | 0, _ => simp
        | 1, _ => simp
        | 2, _ => simp
        | 3, _ => simp
      generalize ([m.op, m.htype, m.hlen, m.hops].take i).flatMap (fun v => putI v 1) = A at *
      have hL := e24
      generalize [DV.int .i64 m.op, .int .i64 m.htype, .int .i64 m.hlen, .int .i64 m.hops] = L at hL hx2
      have k6 : (i : Int) < 4 := by omega
      have z := fun gl => msgPut x 1 (putOk1 hx3) (FO + 4) 1 (fo := FO + 1000) (gl := gl) (by omega) (by omega) A (by omega)
      simp (config := sc) (disch := try exact dd) [std, e1, e4, e5, efo, eg, eb, eo, hL, e25, e26, k6, indexAddrV_lit, hx2]
      refine o_cb (FO + 1000) rfl rfl (z _) rfl (by simp (config := sc) (disch := try exact dd) [std, eg, eb, eo]) ?_
      simp (config := sc) (disch := try exact dd) [std, e1, e4, e5, efo, eg, eb, eo, hL, e25, e26]
      exact nxt_of (i + 1) ⟨by omega, by simp (config := sc) (disch := try exact dd) [std, e1], ⟨by simp (config := sc) (disch := try exact dd) [std, e4], by simp (config := sc) (disch := try exact dd) [std, e5], by simp (config := sc) (disch := try exact dd) [std, efo], by simp (config := sc) (disch := try exact dd) [std], by rw [hs]; simp (config := sc) (disch := try exact dd) [std], by simp (config := sc) (disch := try exact dd) [std]⟩, by simp (config := sc) (disch := try exact dd) [std, e24], by simp (config := sc) (disch := try exact dd) [std, e25], by simp (config := sc) (disch := try exact dd) [std]⟩ (by omega)
    · obtain rfl : i = 4 := by omega
      rw [List.take_of_length_le (by simp)] at eb
      obtain ⟨A, hA⟩ : ∃ A, A = [m.op, m.htype, m.hlen, m.hops].flatMap (fun v => putI v 1) := ⟨_, rfl⟩
      have hAl : A.length = 4 := by rw [hA]; simp
      rw [← hA] at eb
      have z1 := fun gl => msgPut m.xid 4 (putOk4' hn.xid) (FO + 4) 1 (fo := FO + 1000) (gl := gl) (by omega) (by omega) A (by omega)
      have z2 := fun gl => msgPut m.secs 2 (putOk2 hn.secs) (FO + 4) 1 (fo := FO + 1000) (gl := gl) (by omega) (by omega) (A ++ putI m.xid 4) (by simp; omega)
      have z3 := fun gl => msgPut m.flags 2 (putOk2 hn.flags) (FO + 4) 1 (fo := FO + 1000) (gl := gl) (by omega) (by omega) (A ++ putI m.xid 4 ++ putI m.secs 2) (by simp; omega)
      simp (config := sc) (disch := try exact dd) [std, e1, e4, e5, efo, eg, eb, eo, e24, e25, e26]
      refine o_cb (FO + 1000) rfl rfl (z1 _) rfl (by simp (config := sc) (disch := try exact dd) [std, eg, eb, eo]) ?_
      simp (config := sc) (disch := try exact dd) [std, e1, e4, e5, efo, eg, eb, eo]
      refine o_cb (FO + 1000) rfl rfl (z2 _) rfl (by simp (config := sc) (disch := try exact dd) [std, eg, eb, eo]) ?_
      simp (config := sc) (disch := try exact dd) [std, e1, e4, e5, efo, eg, eb, eo]
      refine o_cb (FO + 1000) rfl rfl (z3 _) rfl (by simp (config := sc) (disch := try exact dd) [std, eg, eb, eo]) ?_
      simp (config := sc) (disch := try exact dd) [std, e1, e4, e5, efo, eg, eb, eo]
      obtain ⟨B, hB⟩ : ∃ B, B = A ++ putI m.xid 4 ++ putI m.secs 2 ++ putI m.flags 2 := ⟨_, rfl⟩
      have hBl : B.length = 12 := by rw [hB]; simp; omega
      refine lp (wrI2 m B) (fun i => 4 - i) 0 ⟨by omega, by simp (config := sc) (disch := try exact dd) [std, e1], ⟨by simp (config := sc) (disch := try exact dd) [std, e4], by simp (config := sc) (disch := try exact dd) [std, e5], by simp (config := sc) (disch := try exact dd) [std, efo], by simp (config := sc) (disch := try exact dd) [std], by simp (config := sc) (disch := try exact dd) [std, hB], by simp (config := sc) (disch := try exact dd) [std]⟩, by simp (config := sc) (disch := try exact dd) [std], by simp (config := sc) (disch := try exact dd) [std], by simp (config := sc) (disch := try exact dd) [std]⟩ ?_
      clear e1 e4 e5 efo eg eb eo e24 e25 e26 z1 z2 z3
      rintro i S ⟨hi, e1, ⟨e4, e5, efo, eg, eb, eo⟩, e54, e55, e56⟩
      by_cases hlt : i < 4
      · have hx : ∃ x, [m.ci, m.yi, m.si, m.gi][i]? = some x ∧ ([DV.int .i64 m.ci, .int .i64 m.yi, .int .i64 m.si, .int .i64 m.gi])[i]? = some (.int .i64 x) ∧ (0 ≤ x ∧ x ≤ 4294967295) := by
          match i, hlt with
          | 0, _ => exact ⟨m.ci, rfl, rfl, hn.ci⟩
          | 1, _ => exact ⟨m.yi, rfl, rfl, hn.yi⟩
          | 2, _ => exact ⟨m.si, rfl, rfl, hn.si⟩
          | 3, _ => exact ⟨m.gi, rfl, rfl, hn.gi⟩
        obtain ⟨x, hx1, hx2, hx3⟩ := hx
        have hs : B ++ ([m.ci, m.yi, m.si, m.gi].take (i + 1)).flatMap (fun v => putI v 4) = (B ++ ([m.ci, m.yi, m.si, m.gi].take i).flatMap (fun v => putI v 4)) ++ putI x 4 := by
          rw [List.take_add_one, hx1, List.flatMap_append, List.append_assoc]; simp
        have hl4 : (B ++ ([m.ci, m.yi, m.si, m.gi].take i).flatMap (fun v => putI v 4)).length ≤ 100 := by
          match i, hlt with
          | 0, _ => simp; omega
          | 1, _ => simp; omega
          | 2, _ => simp; omega
          | 3, _ => simp; omega
        generalize B ++ ([m.ci, m.yi, m.si, m.gi].take i).flatMap (fun v => putI v 4) = C at *
        have hL := e54
        generalize [DV.int .i64 m.ci, .int .i64 m.yi, .int .i64 m.si, .int .i64 m.gi] = L at hL hx2
        have k6 : (i : Int) < 4 := by omega
        have z := fun gl => msgPut x 4 (putOk4' hx3) (FO + 4) 1 (fo := FO + 1000) (gl := gl) (by omega) (by omega) C (by omega)
        simp (config := sc) (disch := try exact dd) [std, e1, e4, e5, efo, eg, eb, eo, hL, e55, e56, k6, indexAddrV_lit, hx2]
        refine o_cb (FO + 1000) rfl rfl (z _) rfl (by simp (config := sc) (disch := try exact dd) [std, eg, eb, eo]) ?_
        simp (config := sc) (disch := try exact dd) [std, e1, e4, e5, efo, eg, eb, eo, hL, e55, e56]
        exact nxt_of (i + 1) ⟨by omega, by simp (config := sc) (disch := try exact dd) [std, e1], ⟨by simp (config := sc) (disch := try exact dd) [std, e4], by simp (config := sc) (disch := try exact dd) [std, e5], by simp (config := sc) (disch := try exact dd) [std, efo], by simp (config := sc) (disch := try exact dd) [std], by rw [hs]; simp (config := sc) (disch := try exact dd) [std], by simp (config := sc) (disch := try exact dd) [std]⟩, by simp (config := sc) (disch := try exact dd) [std, e54], by simp (config := sc) (disch := try exact dd) [std, e55], by simp (config := sc) (disch := try exact dd) [std]⟩ (by omega)
      · obtain rfl : i = 4 := by omega
        rw [List.take_of_length_le (by simp)] at eb
        obtain ⟨C, hC⟩ : ∃ C, C = B ++ [m.ci, m.yi, m.si, m.gi].flatMap (fun v => putI v 4) := ⟨_, rfl⟩
        have hCl : C.length = 28 := by rw [hC]; simp; omega
        rw [← hC] at eb
        have hch := hn.ch
        have q8 := tlvWrite m.opts hm.2
        rw [hn.ro, if_pos rfl, if_pos rfl] at q8
        have hw : (writeO m.opts).length ≤ 72121 := by
          obtain ⟨h1, h2⟩ := right_sz hn.ro
          have := flatB_len h2
          simp only [writeO, List.length_append, List.length_cons, List.length_nil]
          omega
        have z := fun gl => msgPut 1669485411 4 (by decide) (FO + 4) 1 (fo := FO + 1000) (gl := gl) (by omega) (by omega) (C ++ m.chaddr ++ List.replicate 192 0) (by simp; omega)
        have hp : putI 1669485411 4 = [99, 130, 83, 99] := by decide
        rw [hp] at z
        have hH : hdS m = C ++ m.chaddr ++ List.replicate 192 0 ++ [99, 130, 83, 99] ++ writeO m.opts := by rw [hC, hB, hA]; rfl
        have hHl : (hdS m).length = 240 + (writeO m.opts).length := by rw [hH]; simp; omega
        have hZl : (List.replicate 192 (0 : UInt8)).length = 192 := List.length_replicate
        have hZm : List.replicate 192 (DV.int .u8 0) = (List.replicate 192 (0 : UInt8)).map byteD := by exact (List.map_replicate ..).symm
        generalize List.replicate 192 (0 : UInt8) = Z at *
        simp (config := sc) (disch := try exact dd) [std, e1, e4, e5, efo, eg, eb, eo, e54, e55, e56, -List.reduceReplicate, hZm]
        refine o_cb (FO + 1000) rfl rfl (z _) rfl (by simp (config := sc) (disch := try exact dd) [std, eg, eb, eo, -List.reduceReplicate, hZm]) ?_
        simp (config := sc) (disch := try exact dd) [std, e1, e4, e5, efo, eg, eb, eo]
        refine oc q8 ?_
        by_cases h15 : 1500 < (hdS m).length
        · rw [if_pos h15]
          have k7 : (1500 : Int) < C.length + (m.chaddr.length + (Z.length + ((writeO m.opts).length + 1 + 1 + 1 + 1))) := by omega
          simp (config := sc) (disch := try exact dd) [std, e1, e4, e5, efo, eg, eb, eo, k7]
        · rw [if_neg h15]
          have k7 : ¬ (1500 : Int) < C.length + (m.chaddr.length + (Z.length + ((writeO m.opts).length + 1 + 1 + 1 + 1))) := by omega
          unfold bytesS
          by_cases h3 : (hdS m).length < 300
          · have k8 : (C.length : Int) + (m.chaddr.length + (Z.length + ((writeO m.opts).length + 1 + 1 + 1 + 1))) < 300 := by omega
            have hz0 : (300 - ((C.length : Int) + (m.chaddr.length + (Z.length + ((writeO m.opts).length + 1 + 1 + 1 + 1))))).toNat = 300 - (hdS m).length := by omega
            have hz1 : List.replicate (300 - (hdS m).length) (DV.int .u8 0) = (List.replicate (300 - (hdS m).length) (0 : UInt8)).map byteD := by simp
            have hz2 : (List.replicate (300 - (hdS m).length) (0 : UInt8)).length ≤ 300 := by simp
            rw [← hz0] at hz1 hz2 ⊢
            generalize List.replicate _ (0 : UInt8) = Y at *
            rw [hH]
            simp (config := sc) (disch := try exact dd) [std, e1, e4, e5, efo, eg, eb, eo, k7, k8, hz1]
            done
          · have k8 : ¬ (C.length : Int) + (m.chaddr.length + (Z.length + ((writeO m.opts).length + 1 + 1 + 1 + 1))) < 300 := by omega
            have hz : 300 - (hdS m).length = 0 := by omega
            rw [hz, hH]
            simp (config := sc) (disch := try exact dd) [std, e1, e4, e5, efo, eg, eb, eo, k7, k8]
            done

end Go.Proofs.YtimlalndjfmnbaaDoor
