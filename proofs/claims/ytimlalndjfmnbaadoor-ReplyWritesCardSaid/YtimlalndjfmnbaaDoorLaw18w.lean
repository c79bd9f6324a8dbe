/- A reply is right, and is written, if its bytes are not too many; and read again it is the reply (chapter 18, ReplyWrites). -/
import Derived.Test.YtimlalndjfmnbaaDoorMake
import Derived.Test.YtimlalndjfmnbaaDoorCfgT
import Derived.Test.YtimlalndjfmnbaaDoorBack
namespace Go.Proofs.YtimlalndjfmnbaaDoor
open BoEng Go
set_option maxRecDepth 100000
attribute [-simp] List.map_take List.map_drop List.length_flatMap
set_option linter.unusedSimpArgs false
set_option linter.unusedVariables false

theorem maxLen_le : maxLen ≤ 9223372036854775807 := by decide
theorem law18great (c : Cfg) (m : Msg) (hl : m.opts.length ≤ 9223372036854775807) : Holds Tryd.prog 26 [.d c.d, .d m.d] (.d (.bool (!(smallM m && smallC c)))) (fun _ => false) := by
  refine Holds.by (by kernel_rfl) Tryd.func26 (by kernel_rfl) rfl [20002, 20003] (by simp) (by kernel_rfl) (by kernel_rfl) rfl ?_
  conv in ccs _ => cbv
  have q1 := great04 m hl
  have q2 := great13 c
  cases h : smallM m with
  | false =>
    rw [h] at q1
    repeat' (first | (simp (config := sc) (disch := try exact dd) [*, std]) | (refine oc (q1) ?_) | (refine sel_by ?_ ?_ <;> intro hc <;> have hc2 := hc <;> (try simp only [decide_eq_true_eq, decide_eq_false_iff_not, Bool.and_eq_true, Bool.or_eq_true, Bool.not_eq_true', Bool.not_eq_false', Bool.or_eq_false_iff, Bool.and_eq_false_iff] at hc2) <;> try omega) | (refine cnd_by ?_ ?_ <;> intro hc <;> have hc2 := hc <;> (try simp only [decide_eq_true_eq, decide_eq_false_iff_not, Bool.and_eq_true, Bool.or_eq_true, Bool.not_eq_true', Bool.not_eq_false', Bool.or_eq_false_iff, Bool.and_eq_false_iff] at hc2) <;> try omega) | (refine onSt_if (by omega) ?_) | (split <;> try omega) | omega)
  | true =>
    rw [h] at q1
    repeat' (first | (simp (config := sc) (disch := try exact dd) [*, std]) | (refine oc (q1) ?_) | (refine oc (q2) ?_) | (refine sel_by ?_ ?_ <;> intro hc <;> have hc2 := hc <;> (try simp only [decide_eq_true_eq, decide_eq_false_iff_not, Bool.and_eq_true, Bool.or_eq_true, Bool.not_eq_true', Bool.not_eq_false', Bool.or_eq_false_iff, Bool.and_eq_false_iff] at hc2) <;> try omega) | (refine cnd_by ?_ ?_ <;> intro hc <;> have hc2 := hc <;> (try simp only [decide_eq_true_eq, decide_eq_false_iff_not, Bool.and_eq_true, Bool.or_eq_true, Bool.not_eq_true', Bool.not_eq_false', Bool.or_eq_false_iff, Bool.and_eq_false_iff] at hc2) <;> try omega) | (refine onSt_if (by omega) ?_) | (split <;> try omega) | omega)

/-- A reply, or none. -/
def rep (c : Cfg) (net sub : Int) (m : Msg) (kind yi : Int) : Option Msg := makeO c net sub m kind yi
theorem makeM_len (c : Cfg) (s : Sub) (m : Msg) (kind yi : Int) : (makeM c s m kind yi).opts.length ≤ 10 := by
  obtain ⟨m1, m2, m3⟩ := optM_ok s m kind yi
  have n1 := echoL_len (m := m) (c := 61)
  have n2 := echoL_len (m := m) (c := 82)
  show (optB c s m kind yi ++ echoL m 61 ++ echoL m 82).length ≤ 10
  unfold optB
  simp; omega

/-! the examples -/
def mK : Msg := ⟨1, 0, 0, 0, 5, 0, 0, 0, 0, 0, 0, [0, 0, 0, 0, 0, 0, 0, 0, 0, 0, 0, 0, 0, 0, 0, 0], [⟨55, [3]⟩]⟩
def xK : Msg := ⟨2, 0, 0, 0, 5, 0, 0, 0, 167772170, 0, 0, [0, 0, 0, 0, 0, 0, 0, 0, 0, 0, 0, 0, 0, 0, 0, 0], [⟨53, [2]⟩, ⟨54, [10, 0, 0, 1]⟩, ⟨51, [0, 0, 2, 88]⟩, ⟨3, [10, 0, 0, 1]⟩]⟩
def sK : Sub := ⟨167772160, 24, [⟨167772170, 167772180⟩], [⟨[105, 48, 49], 167772165⟩], 1, 167772161, 600⟩
theorem kSub : subC plainC 0 0 = some sK := by kernel_rfl
theorem kFair : fairR plainC 0 0 mK 2 167772170 = true := by kernel_rfl
theorem kFair2 : fairR plainC 0 0 mK 3 0 = false := by kernel_rfl
theorem kMake : makeM plainC sK mK 2 167772170 = xK := by kernel_rfl
theorem kAsk3 : askedS mK 3 = true := by kernel_rfl
theorem kAsk1 : askedS mK 1 = false := by kernel_rfl
theorem mK_sized : sizedM mK := ⟨by simp [mK], by simp [mK], by simp [mK]⟩
theorem knows : Holds Tryd.prog 27 [] (.d (.bool true)) (fun _ => false) := by
  refine Holds.by (by kernel_rfl) Tryd.func27 (by kernel_rfl) rfl [20007, 60002, 70014, 60005, 70029] (by simp) (by kernel_rfl) (by kernel_rfl) rfl ?_
  conv in ccs _ => cbv
  have q1 := replyMake plainC 0 0 mK 2 167772170 plain_sized mK_sized kFair kSub
  have q2 := replyNone plainC 0 0 mK 3 0 plain_sized mK_sized kFair2
  have q3 := replyAsked mK 3 mK_sized
  have q4 := replyAsked mK 1 mK_sized
  have q5 := ref03Same xK.opts (by simp [xK])
  rw [kMake] at q1
  rw [kAsk3] at q3
  rw [kAsk1] at q4
  simp (config := sc) (disch := try exact dd) [std]
  rw [o_mkF (n := 16) (z := .int .u8 0) (by simp) (by simp)]
  simp (config := sc) (disch := try exact dd) [std]
  refine oc plain13 ?_
  simp (config := sc) (disch := try exact dd) [std]
  refine oc q1 ?_
  simp (config := sc) (disch := try exact dd) [std, xK]
  refine oc plain13 ?_
  simp (config := sc) (disch := try exact dd) [std]
  refine oc q2 ?_
  simp (config := sc) (disch := try exact dd) [std]
  refine oc q5 ?_
  simp (config := sc) (disch := try exact dd) [std]
  refine oc q3 ?_
  simp (config := sc) (disch := try exact dd) [std]
  refine oc q4 ?_
  simp (config := sc) (disch := try exact dd) [std]

/-! a reply is right -/
theorem make_codes (c : Cfg) (s : Sub) (m : Msg) (kind yi : Int) : ((makeM c s m kind yi).opts.map Opt.code).Sublist [53, 54, 51, 1, 3, 61, 82] := by
  have e : ∀ k, ((echoL m k).map Opt.code).Sublist [k] := fun k => by unfold echoL; split <;> simp
  have hT : ((optT s yi).map Opt.code).Sublist [51] := by unfold optT; split <;> simp
  have hK : ((optK s m).map Opt.code).Sublist [1] := by unfold optK; split <;> simp
  have hR : ((optR s m).map Opt.code).Sublist [3] := by
    unfold optR
    split
    · simp
    · split <;> simp
  have hM : ((optM s m kind yi).map Opt.code).Sublist [51, 1, 3] := by
    unfold optM
    split
    · simp
    · rw [List.map_append, List.map_append]
      exact (hT.append hK).append hR
  show ((optB c s m kind yi ++ echoL m 61 ++ echoL m 82).map Opt.code).Sublist _
  unfold optB
  simp only [List.map_append, List.map_cons, List.map_nil]
  exact (((List.Sublist.refl [53, 54]).append hM).append (e 61)).append (e 82)
theorem make_data (c : Cfg) (s : Sub) (m : Msg) (kind yi : Int) (hr : rightM m = true) : ∀ o ∈ (makeM c s m kind yi).opts, o.data.length ≤ 600 := by
  intro o ho
  have ho : o ∈ optB c s m kind yi ++ echoL m 61 ++ echoL m 82 := ho
  rcases List.mem_append.1 ho with h | h
  · rcases List.mem_append.1 h with h | h
    · unfold optB at h
      rcases List.mem_append.1 h with h | h
      · simp at h
        rcases h with h | h <;> subst h <;> simp
      · unfold optM at h
        split at h
        · simp at h
        · rcases List.mem_append.1 h with h | h
          · rcases List.mem_append.1 h with h | h
            · unfold optT at h
              split at h
              · simp at h
              · simp at h; subst h; simp
            · unfold optK at h
              split at h
              · simp at h; subst h; simp
              · simp at h
          · unfold optR at h
            split at h
            · simp at h
            · split at h
              · simp at h; subst h; simp
              · simp at h
    · exact echoL_data hr o h
  · exact echoL_data hr o h
theorem make_right {c : Cfg} {s : Sub} {m : Msg} {kind yi : Int} (hr : rightM m = true) (hy : rightA yi = true) : rightM (makeM c s m kind yi) = true := by
  have hn := rightM_n hr
  have hy := rightA_iff.1 hy
  have hs := make_codes c s m kind yi
  have hro : rightO (makeM c s m kind yi).opts = true := by
    rw [rightO_iff]
    refine ⟨by have := hs.length_le; simp at this; omega, fun o ho => ⟨?_, make_data c s m kind yi hr o ho⟩, hs.nodup (by decide)⟩
    have := hs.subset (List.mem_map_of_mem (f := Opt.code) ho)
    simp at this
    omega
  have h52 : findS (makeM c s m kind yi).opts 52 = none := by
    rw [find_none]
    intro o ho
    have := hs.subset (List.mem_map_of_mem (f := Opt.code) ho)
    simp at this
    omega
  have hfl : 0 ≤ flagR m kind ∧ flagR m kind ≤ 65535 := by
    have := hn.flags
    unfold flagR
    repeat (first | omega | split)
  have hci : 0 ≤ (if kind = 5 then m.ci else 0) ∧ (if kind = 5 then m.ci else 0) ≤ 4294967295 := by
    have := hn.ci
    split <;> omega
  have hyi : 0 ≤ (if kind = 6 then 0 else yi) ∧ (if kind = 6 then 0 else yi) ≤ 4294967295 := by split <;> omega
  exact rightM_of ⟨by show (0 : Int) ≤ 2 ∧ (2 : Int) ≤ 255; omega, hn.ht, hn.hl, by show (0 : Int) ≤ 0 ∧ (0 : Int) ≤ 255; omega, hn.xid, by show (0 : Int) ≤ 0 ∧ (0 : Int) ≤ 65535; omega, hfl, hci, hyi, by show (0 : Int) ≤ 0 ∧ (0 : Int) ≤ 4294967295; omega, hn.gi, hn.ch, hro⟩ h52

theorem lawWrites18 (c : Cfg) (net sub : Int) (m : Msg) (kind yi : Int) (hok : MsgOk m) :
    Holds Tryd.prog 9 [.d c.d, .d (.int .i64 net), .d (.int .i64 sub), .d m.d, .d (.int .i64 kind), .d (.int .i64 yi)] (.d (.bool true)) (fun _ => false) := by
  refine Holds.by (by kernel_rfl) Tryd.func9 (by kernel_rfl) rfl [20006, 20009] (by simp) (by kernel_rfl) (by kernel_rfl) rfl ?_
  conv in ccs _ => cbv
  have hg := law18great c m (Nat.le_trans hok.2.2.1 maxLen_le)
  cases h : smallM m && smallC c with
  | false =>
    rw [h] at hg
    repeat' (first | (simp (config := sc) (disch := try exact dd) [*, std]) | (refine oc (hg) ?_) | (refine oc (knows) ?_) | (refine sel_by ?_ ?_ <;> intro hc <;> have hc2 := hc <;> (try simp only [decide_eq_true_eq, decide_eq_false_iff_not, Bool.and_eq_true, Bool.or_eq_true, Bool.not_eq_true', Bool.not_eq_false', Bool.or_eq_false_iff, Bool.and_eq_false_iff] at hc2) <;> try omega) | (refine cnd_by ?_ ?_ <;> intro hc <;> have hc2 := hc <;> (try simp only [decide_eq_true_eq, decide_eq_false_iff_not, Bool.and_eq_true, Bool.or_eq_true, Bool.not_eq_true', Bool.not_eq_false', Bool.or_eq_false_iff, Bool.and_eq_false_iff] at hc2) <;> try omega) | (refine onSt_if (by omega) ?_) | (split <;> try omega) | omega)
  | true =>
    rw [h] at hg
    obtain ⟨h1, h2⟩ := Bool.and_eq_true_iff.1 h
    have hm := small_sized h1
    have hc := smallC_sized h2
    cases hf : fairR c net sub m kind yi with
    | false =>
      have q5 := replyNone c net sub m kind yi hc hm hf
      simp (config := sc) (disch := try exact dd) [std]
      refine oc hg ?_
      simp (config := sc) (disch := try exact dd) [std]
      refine oc q5 ?_
      simp (config := sc) (disch := try exact dd) [std, msg0]
      refine oc knows ?_
      simp (config := sc) (disch := try exact dd) [std]
    | true =>
      obtain ⟨_, n, k, hn, hk, rfl, rfl, hs, hr, hyi, _⟩ := fairR_parts hf
      generalize c.nets[n].subs[k] = s at hs
      have q1 := replyMake c n k m kind yi hc hm hf hs
      have hx := make_right (c := c) (s := s) (kind := kind) hr hyi
      generalize makeM c s m kind yi = x at *
      have hxn := rightM_n hx
      have hsz := right_sz hxn.ro
      have hxm : sizedM x := ⟨by rw [hxn.ch]; decide, by omega, fun o ho => by have := hsz.2 o ho; omega⟩
      have q2 := msgWrite x hxm
      have q5 := msgRight x hxm
      have q3 := lawAsM x
      have q6 := ref04Right x hxm
      have q4 := same04 x (by have := hxm.2.1; omega)
      have hlen := bytesS_len x
      unfold writeM at q2
      rw [hx] at q2 q5 q6
      rw [if_neg (by decide)] at q2
      by_cases hbl : 1500 < (hdS x).length
      · rw [if_pos hbl] at q2
        have q8 := ref04Bytes x hx
        have hb2 : (1500 : Int) < (bytesS x).length := by omega
        generalize bytesS x = b at *
        simp (config := sc) (disch := try exact dd) [std]
        refine oc hg ?_
        simp (config := sc) (disch := try exact dd) [std]
        refine oc q1 ?_
        simp (config := sc) (disch := try exact dd) [std]
        refine oc q2 ?_
        simp (config := sc) (disch := try exact dd) [std]
        refine oc q5 ?_
        simp (config := sc) (disch := try exact dd) [std]
        refine oc q3 ?_
        simp (config := sc) (disch := try exact dd) [std]
        refine oc q6 ?_
        simp (config := sc) (disch := try exact dd) [std]
        refine oc q3 ?_
        simp (config := sc) (disch := try exact dd) [std]
        refine oc q8 ?_
        simp (config := sc) (disch := try exact dd) [std, hb2]
        refine oc knows ?_
        simp (config := sc) (disch := try exact dd) [std]
      · rw [if_neg hbl] at q2
        have hbk := back x hx (by omega)
        have q7 := msgReadN (bytesS x) (by omega)
        rw [hbk] at q7
        clear hbk
        generalize bytesS x = b at *
        simp (config := sc) (disch := try exact dd) [std]
        refine oc hg ?_
        simp (config := sc) (disch := try exact dd) [std]
        refine oc q1 ?_
        simp (config := sc) (disch := try exact dd) [std]
        refine oc q2 ?_
        simp (config := sc) (disch := try exact dd) [std]
        refine oc q5 ?_
        simp (config := sc) (disch := try exact dd) [std]
        refine oc q3 ?_
        simp (config := sc) (disch := try exact dd) [std]
        refine oc q6 ?_
        simp (config := sc) (disch := try exact dd) [std]
        refine oc q7 ?_
        simp (config := sc) (disch := try exact dd) [std]
        refine oc q3 ?_
        simp (config := sc) (disch := try exact dd) [std]
        refine oc q3 ?_
        simp (config := sc) (disch := try exact dd) [std]
        refine oc q4 ?_
        simp (config := sc) (disch := try exact dd) [std]
        refine oc knows ?_
        simp (config := sc) (disch := try exact dd) [std]
end Go.Proofs.YtimlalndjfmnbaaDoor
