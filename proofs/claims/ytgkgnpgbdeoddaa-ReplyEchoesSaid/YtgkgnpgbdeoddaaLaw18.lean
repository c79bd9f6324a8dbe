/- The three laws of chapter 18 that make replies: each answers true for every input. -/
import Derived.Test.YtgkgnpgbdeoddaaMake
import Derived.Test.YtgkgnpgbdeoddaaMsgT
import Derived.Test.YtgkgnpgbdeoddaaCfgT
namespace Go.Proofs.Ytgkgnpgbdeoddaa
open BoEng Go
set_option maxRecDepth 100000
set_option linter.unusedSimpArgs false
set_option linter.unusedVariables false

theorem maxLen_le : maxLen ≤ 9223372036854775807 := by decide
theorem law18great (c : Cfg) (m : Msg) (hl : m.opts.length ≤ 9223372036854775807) : Holds Try.prog 6 [.d c.d, .d m.d] (.d (.bool (!(smallM m && smallC c)))) (fun _ => false) := by
  refine Holds.by (by kernel_rfl) Try.func6 (by kernel_rfl) rfl [20002, 20003] (by simp) (by kernel_rfl) (by kernel_rfl) rfl ?_
  conv in ccs _ => cbv
  have q1 := great04 m hl
  have q2 := great13 c
  cases h : smallM m with
  | false =>
    rw [h] at q1
    repeat' (first | (simp -implicitDefEqProofs (disch := first | omega | (simp -implicitDefEqProofs; done) | fail) [*, -List.map_take, -List.map_drop, -List.length_flatMap, map_take', map_drop', wrap_in, nth_nat, opt_if, dec_t, dec_f]) | (refine o_call rfl rfl (q1) rfl rfl ?_) | (refine sel_by ?_ ?_ <;> intro hc <;> have hc2 := hc <;> (try simp only [decide_eq_true_eq, decide_eq_false_iff_not, Bool.and_eq_true, Bool.or_eq_true, Bool.not_eq_true', Bool.not_eq_false', Bool.or_eq_false_iff, Bool.and_eq_false_iff] at hc2) <;> try omega) | (refine cnd_by ?_ ?_ <;> intro hc <;> have hc2 := hc <;> (try simp only [decide_eq_true_eq, decide_eq_false_iff_not, Bool.and_eq_true, Bool.or_eq_true, Bool.not_eq_true', Bool.not_eq_false', Bool.or_eq_false_iff, Bool.and_eq_false_iff] at hc2) <;> try omega) | (refine onSt_if (by omega) ?_) | (split <;> try omega) | omega)
  | true =>
    rw [h] at q1
    repeat' (first | (simp -implicitDefEqProofs (disch := first | omega | (simp -implicitDefEqProofs; done) | fail) [*, -List.map_take, -List.map_drop, -List.length_flatMap, map_take', map_drop', wrap_in, nth_nat, opt_if, dec_t, dec_f]) | (refine o_call rfl rfl (q1) rfl rfl ?_) | (refine o_call rfl rfl (q2) rfl rfl ?_) | (refine sel_by ?_ ?_ <;> intro hc <;> have hc2 := hc <;> (try simp only [decide_eq_true_eq, decide_eq_false_iff_not, Bool.and_eq_true, Bool.or_eq_true, Bool.not_eq_true', Bool.not_eq_false', Bool.or_eq_false_iff, Bool.and_eq_false_iff] at hc2) <;> try omega) | (refine cnd_by ?_ ?_ <;> intro hc <;> have hc2 := hc <;> (try simp only [decide_eq_true_eq, decide_eq_false_iff_not, Bool.and_eq_true, Bool.or_eq_true, Bool.not_eq_true', Bool.not_eq_false', Bool.or_eq_false_iff, Bool.and_eq_false_iff] at hc2) <;> try omega) | (refine onSt_if (by omega) ?_) | (split <;> try omega) | omega)

/-- A reply, or none. -/
def rep (c : Cfg) (net sub : Int) (m : Msg) (kind yi : Int) : Option Msg := makeO c net sub m kind yi
theorem makeM_len (c : Cfg) (s : Sub) (m : Msg) (kind yi : Int) : (makeM c s m kind yi).opts.length ≤ 10 := by
  obtain ⟨m1, m2, m3⟩ := optM_ok s m kind yi
  have n1 := echoL_len (m := m) (c := 61)
  have n2 := echoL_len (m := m) (c := 82)
  show (optB c s m kind yi ++ echoL m 61 ++ echoL m 82).length ≤ 10
  unfold optB
  simp; omega

/-! the examples -/
def mK : Msg := ⟨1, 0, 0, 0, 5, 0, 0, 0, 0, 0, 0, [0, 0, 0, 0, 0, 0, 0, 0, 0, 0, 0, 0, 0, 0, 0, 0], [⟨55, [3]⟩]⟩
def xK : Msg := ⟨2, 0, 0, 0, 5, 0, 0, 0, 167772170, 0, 0, [0, 0, 0, 0, 0, 0, 0, 0, 0, 0, 0, 0, 0, 0, 0, 0], [⟨53, [2]⟩, ⟨54, [10, 0, 0, 1]⟩, ⟨51, [0, 0, 2, 88]⟩, ⟨3, [10, 0, 0, 1]⟩]⟩
def sK : Sub := ⟨167772160, 24, [⟨167772170, 167772180⟩], [⟨[105, 48, 49], 167772165⟩], 1, 167772161, 600⟩
theorem kSub : subC plainC 0 0 = some sK := by kernel_rfl
theorem kFair : fairR plainC 0 0 mK 2 167772170 = true := by kernel_rfl
theorem kFair2 : fairR plainC 0 0 mK 3 0 = false := by kernel_rfl
theorem kMake : makeM plainC sK mK 2 167772170 = xK := by kernel_rfl
theorem kAsk3 : askedS mK 3 = true := by kernel_rfl
theorem kAsk1 : askedS mK 1 = false := by kernel_rfl
theorem mK_sized : sizedM mK := ⟨by simp [mK], by simp [mK], by simp [mK]⟩
theorem knows : Holds Try.prog 7 [] (.d (.bool true)) (fun _ => false) := by
  refine Holds.by (by kernel_rfl) Try.func7 (by kernel_rfl) rfl [20007, 60002, 70014, 60005, 70029] (by simp) (by kernel_rfl) (by kernel_rfl) rfl ?_
  conv in ccs _ => cbv
  have q1 := replyMake plainC 0 0 mK 2 167772170 plain_sized mK_sized kFair kSub
  have q2 := replyNone plainC 0 0 mK 3 0 plain_sized mK_sized kFair2
  have q3 := replyAsked mK 3 mK_sized
  have q4 := replyAsked mK 1 mK_sized
  have q5 := ref03Same xK.opts (by simp [xK])
  rw [kMake] at q1
  rw [kAsk3] at q3
  rw [kAsk1] at q4
  simp -implicitDefEqProofs (disch := first | omega | (simp -implicitDefEqProofs; done) | fail) [-List.map_take, -List.map_drop, -List.length_flatMap, map_take', map_drop', wrap_in, nth_nat, opt_if, dec_t, dec_f]
  rw [o_mkF (n := 16) (z := .int .u8 0) (by simp) (by simp)]
  simp -implicitDefEqProofs (disch := first | omega | (simp -implicitDefEqProofs; done) | fail) [-List.map_take, -List.map_drop, -List.length_flatMap, map_take', map_drop', wrap_in, nth_nat, opt_if, dec_t, dec_f]
  refine o_call rfl rfl plain13 rfl rfl ?_
  simp -implicitDefEqProofs (disch := first | omega | (simp -implicitDefEqProofs; done) | fail) [-List.map_take, -List.map_drop, -List.length_flatMap, map_take', map_drop', wrap_in, nth_nat, opt_if, dec_t, dec_f]
  refine o_call rfl rfl q1 rfl rfl ?_
  simp -implicitDefEqProofs (disch := first | omega | (simp -implicitDefEqProofs; done) | fail) [-List.map_take, -List.map_drop, -List.length_flatMap, map_take', map_drop', wrap_in, nth_nat, opt_if, dec_t, dec_f, xK]
  refine o_call rfl rfl plain13 rfl rfl ?_
  simp -implicitDefEqProofs (disch := first | omega | (simp -implicitDefEqProofs; done) | fail) [-List.map_take, -List.map_drop, -List.length_flatMap, map_take', map_drop', wrap_in, nth_nat, opt_if, dec_t, dec_f]
  refine o_call rfl rfl q2 rfl rfl ?_
  simp -implicitDefEqProofs (disch := first | omega | (simp -implicitDefEqProofs; done) | fail) [-List.map_take, -List.map_drop, -List.length_flatMap, map_take', map_drop', wrap_in, nth_nat, opt_if, dec_t, dec_f]
  refine o_call rfl rfl q5 rfl rfl ?_
  simp -implicitDefEqProofs (disch := first | omega | (simp -implicitDefEqProofs; done) | fail) [-List.map_take, -List.map_drop, -List.length_flatMap, map_take', map_drop', wrap_in, nth_nat, opt_if, dec_t, dec_f]
  refine o_call rfl rfl q3 rfl rfl ?_
  simp -implicitDefEqProofs (disch := first | omega | (simp -implicitDefEqProofs; done) | fail) [-List.map_take, -List.map_drop, -List.length_flatMap, map_take', map_drop', wrap_in, nth_nat, opt_if, dec_t, dec_f]
  refine o_call rfl rfl q4 rfl rfl ?_
  simp -implicitDefEqProofs (disch := first | omega | (simp -implicitDefEqProofs; done) | fail) [-List.map_take, -List.map_drop, -List.length_flatMap, map_take', map_drop', wrap_in, nth_nat, opt_if, dec_t, dec_f]

theorem msg0_same : Holds Try.prog 13 [.d msg0.d, .d msg0.d] (.d (.bool true)) (fun _ => false) := ref04Same msg0 (by simp [msg0])
theorem lawMakes (c : Cfg) (net sub : Int) (m : Msg) (kind yi : Int) (hok : MsgOk m) :
    Holds Try.prog 3 [.d c.d, .d (.int .i64 net), .d (.int .i64 sub), .d m.d, .d (.int .i64 kind), .d (.int .i64 yi)] (.d (.bool true)) (fun _ => false) := by
  refine Holds.by (by kernel_rfl) Try.func3 (by kernel_rfl) rfl [20006, 20009] (by simp) (by kernel_rfl) (by kernel_rfl) rfl ?_
  conv in ccs _ => cbv
  have hg := law18great c m (Nat.le_trans hok.2.2.1 maxLen_le)
  cases h : smallM m && smallC c with
  | false =>
    rw [h] at hg
    repeat' (first | (simp -implicitDefEqProofs (disch := first | omega | (simp -implicitDefEqProofs; done) | fail) [*, -List.map_take, -List.map_drop, -List.length_flatMap, map_take', map_drop', wrap_in, nth_nat, opt_if, dec_t, dec_f]) | (refine o_call rfl rfl (hg) rfl rfl ?_) | (refine o_call rfl rfl (knows) rfl rfl ?_) | (refine sel_by ?_ ?_ <;> intro hc <;> have hc2 := hc <;> (try simp only [decide_eq_true_eq, decide_eq_false_iff_not, Bool.and_eq_true, Bool.or_eq_true, Bool.not_eq_true', Bool.not_eq_false', Bool.or_eq_false_iff, Bool.and_eq_false_iff] at hc2) <;> try omega) | (refine cnd_by ?_ ?_ <;> intro hc <;> have hc2 := hc <;> (try simp only [decide_eq_true_eq, decide_eq_false_iff_not, Bool.and_eq_true, Bool.or_eq_true, Bool.not_eq_true', Bool.not_eq_false', Bool.or_eq_false_iff, Bool.and_eq_false_iff] at hc2) <;> try omega) | (refine onSt_if (by omega) ?_) | (split <;> try omega) | omega)
  | true =>
    rw [h] at hg
    obtain ⟨h1, h2⟩ := Bool.and_eq_true_iff.1 h
    have hm := small_sized h1
    have hc := smallC_sized h2
    have q1 := lawAs m
    have q2 := replyAsked m kind hm
    have q3 := ref18Asked m kind hm
    have q4 := ref18Fair c net sub m kind yi hc hm
    cases hf : fairR c net sub m kind yi with
    | false =>
      have q5 := replyNone c net sub m kind yi hc hm hf
      have q6 := lawAs msg0
      have q7 := msg0_same
      rw [hf] at q4
      simp -implicitDefEqProofs (disch := first | omega | (simp -implicitDefEqProofs; done) | fail) [-List.map_take, -List.map_drop, -List.length_flatMap, map_take', map_drop', wrap_in, nth_nat, opt_if, dec_t, dec_f]
      refine o_call rfl rfl hg rfl rfl ?_
      simp -implicitDefEqProofs (disch := first | omega | (simp -implicitDefEqProofs; done) | fail) [-List.map_take, -List.map_drop, -List.length_flatMap, map_take', map_drop', wrap_in, nth_nat, opt_if, dec_t, dec_f]
      refine o_call rfl rfl q1 rfl rfl ?_
      simp -implicitDefEqProofs (disch := first | omega | (simp -implicitDefEqProofs; done) | fail) [-List.map_take, -List.map_drop, -List.length_flatMap, map_take', map_drop', wrap_in, nth_nat, opt_if, dec_t, dec_f]
      refine o_call rfl rfl q5 rfl rfl ?_
      simp -implicitDefEqProofs (disch := first | omega | (simp -implicitDefEqProofs; done) | fail) [-List.map_take, -List.map_drop, -List.length_flatMap, map_take', map_drop', wrap_in, nth_nat, opt_if, dec_t, dec_f, msg0]
      refine o_call rfl rfl q2 rfl rfl ?_
      simp -implicitDefEqProofs (disch := first | omega | (simp -implicitDefEqProofs; done) | fail) [-List.map_take, -List.map_drop, -List.length_flatMap, map_take', map_drop', wrap_in, nth_nat, opt_if, dec_t, dec_f]
      refine o_call rfl rfl q3 rfl rfl ?_
      simp -implicitDefEqProofs (disch := first | omega | (simp -implicitDefEqProofs; done) | fail) [-List.map_take, -List.map_drop, -List.length_flatMap, map_take', map_drop', wrap_in, nth_nat, opt_if, dec_t, dec_f]
      refine o_call rfl rfl q4 rfl rfl ?_
      simp -implicitDefEqProofs (disch := first | omega | (simp -implicitDefEqProofs; done) | fail) [-List.map_take, -List.map_drop, -List.length_flatMap, map_take', map_drop', wrap_in, nth_nat, opt_if, dec_t, dec_f]
      refine o_call rfl rfl q6 rfl rfl ?_
      simp -implicitDefEqProofs (disch := first | omega | (simp -implicitDefEqProofs; done) | fail) [-List.map_take, -List.map_drop, -List.length_flatMap, map_take', map_drop', wrap_in, nth_nat, opt_if, dec_t, dec_f, msg0]
      refine o_call rfl rfl q7 rfl rfl ?_
      simp -implicitDefEqProofs (disch := first | omega | (simp -implicitDefEqProofs; done) | fail) [-List.map_take, -List.map_drop, -List.length_flatMap, map_take', map_drop', wrap_in, nth_nat, opt_if, dec_t, dec_f]
      refine o_call rfl rfl knows rfl rfl ?_
      simp -implicitDefEqProofs (disch := first | omega | (simp -implicitDefEqProofs; done) | fail) [-List.map_take, -List.map_drop, -List.length_flatMap, map_take', map_drop', wrap_in, nth_nat, opt_if, dec_t, dec_f]
    | true =>
      obtain ⟨_, n, k, hn, hk, rfl, rfl, hs, _⟩ := fairR_parts hf
      generalize c.nets[n].subs[k] = s at hs
      have q5 := replyMake c n k m kind yi hc hm hf hs
      have q8 := ref18Make c n k m kind yi hc hm hf hs
      have hl := makeM_len c s m kind yi
      generalize makeM c s m kind yi = x at *
      have q6 := lawAs x
      have q7 := ref04Same x (by omega)
      rw [hf] at q4
      simp -implicitDefEqProofs (disch := first | omega | (simp -implicitDefEqProofs; done) | fail) [-List.map_take, -List.map_drop, -List.length_flatMap, map_take', map_drop', wrap_in, nth_nat, opt_if, dec_t, dec_f]
      refine o_call rfl rfl hg rfl rfl ?_
      simp -implicitDefEqProofs (disch := first | omega | (simp -implicitDefEqProofs; done) | fail) [-List.map_take, -List.map_drop, -List.length_flatMap, map_take', map_drop', wrap_in, nth_nat, opt_if, dec_t, dec_f]
      refine o_call rfl rfl q1 rfl rfl ?_
      simp -implicitDefEqProofs (disch := first | omega | (simp -implicitDefEqProofs; done) | fail) [-List.map_take, -List.map_drop, -List.length_flatMap, map_take', map_drop', wrap_in, nth_nat, opt_if, dec_t, dec_f]
      refine o_call rfl rfl q5 rfl rfl ?_
      simp -implicitDefEqProofs (disch := first | omega | (simp -implicitDefEqProofs; done) | fail) [-List.map_take, -List.map_drop, -List.length_flatMap, map_take', map_drop', wrap_in, nth_nat, opt_if, dec_t, dec_f]
      refine o_call rfl rfl q2 rfl rfl ?_
      simp -implicitDefEqProofs (disch := first | omega | (simp -implicitDefEqProofs; done) | fail) [-List.map_take, -List.map_drop, -List.length_flatMap, map_take', map_drop', wrap_in, nth_nat, opt_if, dec_t, dec_f]
      refine o_call rfl rfl q3 rfl rfl ?_
      simp -implicitDefEqProofs (disch := first | omega | (simp -implicitDefEqProofs; done) | fail) [-List.map_take, -List.map_drop, -List.length_flatMap, map_take', map_drop', wrap_in, nth_nat, opt_if, dec_t, dec_f]
      refine o_call rfl rfl q4 rfl rfl ?_
      simp -implicitDefEqProofs (disch := first | omega | (simp -implicitDefEqProofs; done) | fail) [-List.map_take, -List.map_drop, -List.length_flatMap, map_take', map_drop', wrap_in, nth_nat, opt_if, dec_t, dec_f]
      refine o_call rfl rfl q6 rfl rfl ?_
      simp -implicitDefEqProofs (disch := first | omega | (simp -implicitDefEqProofs; done) | fail) [-List.map_take, -List.map_drop, -List.length_flatMap, map_take', map_drop', wrap_in, nth_nat, opt_if, dec_t, dec_f]
      refine o_call rfl rfl q8 rfl rfl ?_
      simp -implicitDefEqProofs (disch := first | omega | (simp -implicitDefEqProofs; done) | fail) [-List.map_take, -List.map_drop, -List.length_flatMap, map_take', map_drop', wrap_in, nth_nat, opt_if, dec_t, dec_f]
      refine o_call rfl rfl q7 rfl rfl ?_
      simp -implicitDefEqProofs (disch := first | omega | (simp -implicitDefEqProofs; done) | fail) [-List.map_take, -List.map_drop, -List.length_flatMap, map_take', map_drop', wrap_in, nth_nat, opt_if, dec_t, dec_f]
      refine o_call rfl rfl knows rfl rfl ?_
      simp -implicitDefEqProofs (disch := first | omega | (simp -implicitDefEqProofs; done) | fail) [-List.map_take, -List.map_drop, -List.length_flatMap, map_take', map_drop', wrap_in, nth_nat, opt_if, dec_t, dec_f]

theorem findS_app {l k : List Opt} {c : Int} (h : ∀ x ∈ l, x.code ≠ c) : findS (l ++ k) c = findS k c := by
  unfold findS
  rw [List.find?_append, List.find?_eq_none.2 (fun x hx => by simpa using h x hx)]
  rfl
theorem findS_echo (m : Msg) (c : Int) : findS (echoL m c) c = findS m.opts c := by
  unfold echoL
  cases h : findS m.opts c with
  | none => rfl
  | some b => simp [findS]
theorem findS_none {l : List Opt} {c : Int} (h : ∀ x ∈ l, x.code ≠ c) : findS l c = none := by
  unfold findS
  rw [List.find?_eq_none.2 (fun x hx => by simpa using h x hx)]
  rfl
theorem findS_fst {l k : List Opt} {c : Int} (h : ∀ x ∈ k, x.code ≠ c) : findS (l ++ k) c = findS l c := by
  unfold findS
  rw [List.find?_append, List.find?_eq_none (p := fun o : Opt => decide (o.code = c)) (l := k) |>.2 (fun x hx => by simpa using h x hx)]
  simp
theorem optB_code (c : Cfg) (s : Sub) (m : Msg) (kind yi : Int) : ∀ x ∈ optB c s m kind yi, x.code = 53 ∨ x.code = 54 ∨ x.code = 51 ∨ x.code = 1 ∨ x.code = 3 := by
  obtain ⟨m1, m2, m3⟩ := optM_ok s m kind yi
  unfold optB
  intro x hx
  rcases List.mem_append.1 hx with h | h
  · simp at h
    rcases h with h | h <;> subst h <;> simp
  · rcases m3 x h with h | h | h <;> simp [h]
theorem make_61 (c : Cfg) (s : Sub) (m : Msg) (kind yi : Int) : findS (makeM c s m kind yi).opts 61 = findS m.opts 61 := by
  show findS (optB c s m kind yi ++ echoL m 61 ++ echoL m 82) 61 = _
  rw [findS_fst (code_ne echoL_code (by decide)), findS_app (fun x hx => by rcases optB_code c s m kind yi x hx with h | h | h | h | h <;> omega), findS_echo]
theorem make_82 (c : Cfg) (s : Sub) (m : Msg) (kind yi : Int) : findS (makeM c s m kind yi).opts 82 = findS m.opts 82 := by
  show findS (optB c s m kind yi ++ echoL m 61 ++ echoL m 82) 82 = _
  rw [findS_app (codes_app (fun x hx => by rcases optB_code c s m kind yi x hx with h | h | h | h | h <;> omega) (code_ne echoL_code (by decide))), findS_echo]
theorem make_sized (c : Cfg) (s : Sub) (m : Msg) (kind yi : Int) (hr : rightM m = true) : sized (makeM c s m kind yi).opts := by
  obtain ⟨m1, m2, m3⟩ := optM_ok s m kind yi
  obtain ⟨n1, n2, n3⟩ := echo_ok (m := m) 61 hr
  obtain ⟨o1, o2, o3⟩ := echo_ok (m := m) 82 hr
  show sized (optB c s m kind yi ++ echoL m 61 ++ echoL m 82)
  unfold optB
  exact sized_cat (sized_cat (sized_cat (by simp [sized]) m2 (by simp; omega)) n2 (by simp; omega)) o2 (by simp; omega)
theorem lawEchoes (c : Cfg) (net sub : Int) (m : Msg) (kind yi : Int) (hok : MsgOk m) :
    Holds Try.prog 4 [.d c.d, .d (.int .i64 net), .d (.int .i64 sub), .d m.d, .d (.int .i64 kind), .d (.int .i64 yi)] (.d (.bool true)) (fun _ => false) := by
  refine Holds.by (by kernel_rfl) Try.func4 (by kernel_rfl) rfl [20006, 20009] (by simp) (by kernel_rfl) (by kernel_rfl) rfl ?_
  conv in ccs _ => cbv
  have hg := law18great c m (Nat.le_trans hok.2.2.1 maxLen_le)
  cases h : smallM m && smallC c with
  | false =>
    rw [h] at hg
    repeat' (first | (simp -implicitDefEqProofs (disch := first | omega | (simp -implicitDefEqProofs; done) | fail) [*, -List.map_take, -List.map_drop, -List.length_flatMap, map_take', map_drop', wrap_in, nth_nat, opt_if, dec_t, dec_f]) | (refine o_call rfl rfl (hg) rfl rfl ?_) | (refine o_call rfl rfl (knows) rfl rfl ?_) | (refine sel_by ?_ ?_ <;> intro hc <;> have hc2 := hc <;> (try simp only [decide_eq_true_eq, decide_eq_false_iff_not, Bool.and_eq_true, Bool.or_eq_true, Bool.not_eq_true', Bool.not_eq_false', Bool.or_eq_false_iff, Bool.and_eq_false_iff] at hc2) <;> try omega) | (refine cnd_by ?_ ?_ <;> intro hc <;> have hc2 := hc <;> (try simp only [decide_eq_true_eq, decide_eq_false_iff_not, Bool.and_eq_true, Bool.or_eq_true, Bool.not_eq_true', Bool.not_eq_false', Bool.or_eq_false_iff, Bool.and_eq_false_iff] at hc2) <;> try omega) | (refine onSt_if (by omega) ?_) | (split <;> try omega) | omega)
  | true =>
    rw [h] at hg
    obtain ⟨h1, h2⟩ := Bool.and_eq_true_iff.1 h
    have hm := small_sized h1
    have hc := smallC_sized h2
    cases hf : fairR c net sub m kind yi with
    | false =>
      have q5 := replyNone c net sub m kind yi hc hm hf
      simp -implicitDefEqProofs (disch := first | omega | (simp -implicitDefEqProofs; done) | fail) [-List.map_take, -List.map_drop, -List.length_flatMap, map_take', map_drop', wrap_in, nth_nat, opt_if, dec_t, dec_f]
      refine o_call rfl rfl hg rfl rfl ?_
      simp -implicitDefEqProofs (disch := first | omega | (simp -implicitDefEqProofs; done) | fail) [-List.map_take, -List.map_drop, -List.length_flatMap, map_take', map_drop', wrap_in, nth_nat, opt_if, dec_t, dec_f]
      refine o_call rfl rfl q5 rfl rfl ?_
      simp -implicitDefEqProofs (disch := first | omega | (simp -implicitDefEqProofs; done) | fail) [-List.map_take, -List.map_drop, -List.length_flatMap, map_take', map_drop', wrap_in, nth_nat, opt_if, dec_t, dec_f, msg0]
      refine o_call rfl rfl knows rfl rfl ?_
      simp -implicitDefEqProofs (disch := first | omega | (simp -implicitDefEqProofs; done) | fail) [-List.map_take, -List.map_drop, -List.length_flatMap, map_take', map_drop', wrap_in, nth_nat, opt_if, dec_t, dec_f]
    | true =>
      obtain ⟨_, n, k, hn, hk, rfl, rfl, hs, hr, _⟩ := fairR_parts hf
      generalize c.nets[n].subs[k] = s at hs
      have q5 := replyMake c n k m kind yi hc hm hf hs
      have e1 := make_61 c s m kind yi
      have e2 := make_82 c s m kind yi
      have hx := make_sized c s m kind yi hr
      have e3 : (makeM c s m kind yi).xid = m.xid ∧ (makeM c s m kind yi).gi = m.gi ∧ (makeM c s m kind yi).chaddr = m.chaddr := ⟨rfl, rfl, rfl⟩
      generalize makeM c s m kind yi = x at *
      obtain ⟨e3, e4, e5⟩ := e3
      have q1 := ref03Find m.opts 61 hm.2
      have q2 := ref03Find x.opts 61 hx
      have q3 := ref03Find m.opts 82 hm.2
      have q4 := ref03Find x.opts 82 hx
      rw [e1] at q2
      rw [e2] at q4
      generalize (findS m.opts 61).isSome = b1 at q1 q2
      generalize (findS m.opts 82).isSome = b2 at q3 q4
      simp -implicitDefEqProofs (disch := first | omega | (simp -implicitDefEqProofs; done) | fail) [-List.map_take, -List.map_drop, -List.length_flatMap, map_take', map_drop', wrap_in, nth_nat, opt_if, dec_t, dec_f]
      refine o_call rfl rfl hg rfl rfl ?_
      simp -implicitDefEqProofs (disch := first | omega | (simp -implicitDefEqProofs; done) | fail) [-List.map_take, -List.map_drop, -List.length_flatMap, map_take', map_drop', wrap_in, nth_nat, opt_if, dec_t, dec_f]
      refine o_call rfl rfl q5 rfl rfl ?_
      simp -implicitDefEqProofs (disch := first | omega | (simp -implicitDefEqProofs; done) | fail) [-List.map_take, -List.map_drop, -List.length_flatMap, map_take', map_drop', wrap_in, nth_nat, opt_if, dec_t, dec_f]
      refine o_call rfl rfl q1 rfl rfl ?_
      simp -implicitDefEqProofs (disch := first | omega | (simp -implicitDefEqProofs; done) | fail) [-List.map_take, -List.map_drop, -List.length_flatMap, map_take', map_drop', wrap_in, nth_nat, opt_if, dec_t, dec_f]
      refine o_call rfl rfl q2 rfl rfl ?_
      simp -implicitDefEqProofs (disch := first | omega | (simp -implicitDefEqProofs; done) | fail) [-List.map_take, -List.map_drop, -List.length_flatMap, map_take', map_drop', wrap_in, nth_nat, opt_if, dec_t, dec_f]
      refine o_call rfl rfl q3 rfl rfl ?_
      simp -implicitDefEqProofs (disch := first | omega | (simp -implicitDefEqProofs; done) | fail) [-List.map_take, -List.map_drop, -List.length_flatMap, map_take', map_drop', wrap_in, nth_nat, opt_if, dec_t, dec_f]
      refine o_call rfl rfl q4 rfl rfl ?_
      simp -implicitDefEqProofs (disch := first | omega | (simp -implicitDefEqProofs; done) | fail) [-List.map_take, -List.map_drop, -List.length_flatMap, map_take', map_drop', wrap_in, nth_nat, opt_if, dec_t, dec_f, e3, e4, e5]
      refine o_call rfl rfl knows rfl rfl ?_
      simp -implicitDefEqProofs (disch := first | omega | (simp -implicitDefEqProofs; done) | fail) [-List.map_take, -List.map_drop, -List.length_flatMap, map_take', map_drop', wrap_in, nth_nat, opt_if, dec_t, dec_f]

theorem numS_at {l : List Opt} {c v : Int} (h : findS l c = some (putB v 4)) (h0 : 0 ≤ v) (h1 : v ≤ 4294967295) : numS l c = some v := by
  unfold numS
  rw [h]
  have : v < 256 ^ 4 := by
    have : (256 : Int) ^ 4 = 4294967296 := by decide
    omega
  simp [putB_val 4 v h0 this]
theorem numS_none {l : List Opt} {c : Int} (h : findS l c = none) : numS l c = none := by
  unfold numS
  rw [h]
theorem make_head (c : Cfg) (s : Sub) (m : Msg) (kind yi : Int) : ∃ r, (makeM c s m kind yi).opts = ⟨53, putB kind 1⟩ :: ⟨54, putB c.server 4⟩ :: r := by
  refine ⟨optM s m kind yi ++ echoL m 61 ++ echoL m 82, ?_⟩
  show optB c s m kind yi ++ echoL m 61 ++ echoL m 82 = _
  simp [optB]
theorem make_51 (c : Cfg) (s : Sub) (m : Msg) (kind yi : Int) : findS (makeM c s m kind yi).opts 51 = if kind = 6 ∨ yi = 0 then none else some (putB s.time 4) := by
  show findS (optB c s m kind yi ++ echoL m 61 ++ echoL m 82) 51 = _
  rw [findS_fst (code_ne echoL_code (by decide)), findS_fst (code_ne echoL_code (by decide))]
  unfold optB
  rw [findS_app (by simp)]
  obtain ⟨r1, r2, r3⟩ := optK_ok s m
  obtain ⟨k1, k2, k3⟩ := optR_ok s m
  unfold optM
  by_cases h6 : kind = 6
  · rw [if_pos h6, if_pos (.inl h6)]
    rfl
  · rw [if_neg h6, findS_fst (code_ne k3 (by decide)), findS_fst (code_ne r3 (by decide))]
    unfold optT
    by_cases h0 : yi = 0
    · rw [if_pos h0, if_pos (.inr h0)]
      rfl
    · rw [if_neg h0, if_neg (by simp [h6, h0])]
      simp [findS]
theorem lawGives (c : Cfg) (net sub : Int) (m : Msg) (kind yi : Int) (hok : MsgOk m) :
    Holds Try.prog 5 [.d c.d, .d (.int .i64 net), .d (.int .i64 sub), .d m.d, .d (.int .i64 kind), .d (.int .i64 yi)] (.d (.bool true)) (fun _ => false) := by
  refine Holds.by (by kernel_rfl) Try.func5 (by kernel_rfl) rfl [20006, 20009] (by simp) (by kernel_rfl) (by kernel_rfl) rfl ?_
  conv in ccs _ => cbv
  have hg := law18great c m (Nat.le_trans hok.2.2.1 maxLen_le)
  cases h : smallM m && smallC c with
  | false =>
    rw [h] at hg
    repeat' (first | (simp -implicitDefEqProofs (disch := first | omega | (simp -implicitDefEqProofs; done) | fail) [*, -List.map_take, -List.map_drop, -List.length_flatMap, map_take', map_drop', wrap_in, nth_nat, opt_if, dec_t, dec_f]) | (refine o_call rfl rfl (hg) rfl rfl ?_) | (refine o_call rfl rfl (knows) rfl rfl ?_) | (refine sel_by ?_ ?_ <;> intro hc <;> have hc2 := hc <;> (try simp only [decide_eq_true_eq, decide_eq_false_iff_not, Bool.and_eq_true, Bool.or_eq_true, Bool.not_eq_true', Bool.not_eq_false', Bool.or_eq_false_iff, Bool.and_eq_false_iff] at hc2) <;> try omega) | (refine cnd_by ?_ ?_ <;> intro hc <;> have hc2 := hc <;> (try simp only [decide_eq_true_eq, decide_eq_false_iff_not, Bool.and_eq_true, Bool.or_eq_true, Bool.not_eq_true', Bool.not_eq_false', Bool.or_eq_false_iff, Bool.and_eq_false_iff] at hc2) <;> try omega) | (refine onSt_if (by omega) ?_) | (split <;> try omega) | omega)
  | true =>
    rw [h] at hg
    obtain ⟨h1, h2⟩ := Bool.and_eq_true_iff.1 h
    have hm := small_sized h1
    have hc := smallC_sized h2
    cases hf : fairR c net sub m kind yi with
    | false =>
      have q5 := replyNone c net sub m kind yi hc hm hf
      simp -implicitDefEqProofs (disch := first | omega | (simp -implicitDefEqProofs; done) | fail) [-List.map_take, -List.map_drop, -List.length_flatMap, map_take', map_drop', wrap_in, nth_nat, opt_if, dec_t, dec_f]
      refine o_call rfl rfl hg rfl rfl ?_
      simp -implicitDefEqProofs (disch := first | omega | (simp -implicitDefEqProofs; done) | fail) [-List.map_take, -List.map_drop, -List.length_flatMap, map_take', map_drop', wrap_in, nth_nat, opt_if, dec_t, dec_f]
      refine o_call rfl rfl q5 rfl rfl ?_
      simp -implicitDefEqProofs (disch := first | omega | (simp -implicitDefEqProofs; done) | fail) [-List.map_take, -List.map_drop, -List.length_flatMap, map_take', map_drop', wrap_in, nth_nat, opt_if, dec_t, dec_f, msg0]
      refine o_call rfl rfl knows rfl rfl ?_
      simp -implicitDefEqProofs (disch := first | omega | (simp -implicitDefEqProofs; done) | fail) [-List.map_take, -List.map_drop, -List.length_flatMap, map_take', map_drop', wrap_in, nth_nat, opt_if, dec_t, dec_f]
    | true =>
      obtain ⟨hck, n, k, hn, hk, rfl, rfl, hs, hr, hyi, hkd⟩ := fairR_parts hf
      have hkd := kind_iff.1 hkd
      obtain ⟨hsv, hfs, _⟩ := check_sub hck hn hk
      have hsv := rightA_iff.1 hsv
      have k1 : ¬ (n : Int) < 0 := by omega
      have k2 : ¬ (c.nets.length : Int) ≤ n := by omega
      have k3 : ¬ (k : Int) < 0 := by omega
      have k4 : ¬ (c.nets[n].subs.length : Int) ≤ k := by omega
      have hso := hc.1
      have hno := (hc.2 _ (List.getElem_mem hn)).1
      generalize hxs : c.nets[n].subs[k] = s at *
      simp only [fairS, Bool.and_eq_true, decide_eq_true_eq] at hfs
      obtain ⟨⟨⟨⟨⟨⟨⟨f1, f2⟩, _⟩, _⟩, _⟩, f3⟩, _⟩, _⟩ := hfs
      have q5 := replyMake c n k m kind yi hc hm hf hs
      have hx := make_sized c s m kind yi hr
      have e1 := make_51 c s m kind yi
      obtain ⟨r, hr2⟩ := make_head c s m kind yi
      have e2 : (makeM c s m kind yi).yi = if kind = 6 then 0 else yi := rfl
      generalize makeM c s m kind yi = x at *
      have e3 : numS x.opts 54 = some c.server := numS_at (by rw [hr2]; simp [findS]) hsv.1 hsv.2
      have e4 : kindS x.opts = kind := by
        unfold kindS
        have : findS x.opts 53 = some [lowB kind] := by rw [hr2]; simp [findS, putB]
        rw [this]
        rcases hkd with h | h | h <;> subst h <;> rfl
      have q1 := ref05Number x.opts 54 hx
      have q2 := ref05Number x.opts 51 hx
      have q3 := ref05Kind x.opts hx
      rw [e3] at q1
      rw [e4] at q3
      by_cases h6 : kind = 6 ∨ yi = 0
      · rw [if_pos h6] at e1
        rw [numS_none e1] at q2
        have e5 : x.yi = 0 := by
          rw [e2]
          rcases h6 with h | h <;> simp [h]
        have h6' : ¬ kind = 6 → yi = 0 := fun h => h6.resolve_left h
        simp -implicitDefEqProofs (disch := first | omega | (simp -implicitDefEqProofs; done) | fail) [-List.map_take, -List.map_drop, -List.length_flatMap, map_take', map_drop', wrap_in, nth_nat, opt_if, dec_t, dec_f]
        refine o_call rfl rfl hg rfl rfl ?_
        simp -implicitDefEqProofs (disch := first | omega | (simp -implicitDefEqProofs; done) | fail) [-List.map_take, -List.map_drop, -List.length_flatMap, map_take', map_drop', wrap_in, nth_nat, opt_if, dec_t, dec_f]
        refine o_call rfl rfl q5 rfl rfl ?_
        simp -implicitDefEqProofs (disch := first | omega | (simp -implicitDefEqProofs; done) | fail) [-List.map_take, -List.map_drop, -List.length_flatMap, map_take', map_drop', wrap_in, nth_nat, opt_if, dec_t, dec_f, k1, k2, k3, k4]
        refine o_call rfl rfl q1 rfl rfl ?_
        simp -implicitDefEqProofs (disch := first | omega | (simp -implicitDefEqProofs; done) | fail) [-List.map_take, -List.map_drop, -List.length_flatMap, map_take', map_drop', wrap_in, nth_nat, opt_if, dec_t, dec_f]
        refine o_call rfl rfl q2 rfl rfl ?_
        simp -implicitDefEqProofs (disch := first | omega | (simp -implicitDefEqProofs; done) | fail) [-List.map_take, -List.map_drop, -List.length_flatMap, map_take', map_drop', wrap_in, nth_nat, opt_if, dec_t, dec_f]
        refine o_call rfl rfl q3 rfl rfl ?_
        by_cases h7 : kind = 6
        · simp -implicitDefEqProofs (disch := first | omega | (simp -implicitDefEqProofs; done) | fail) [-List.map_take, -List.map_drop, -List.length_flatMap, map_take', map_drop', wrap_in, nth_nat, opt_if, dec_t, dec_f, h7, e5]
          refine o_call rfl rfl knows rfl rfl ?_
          simp -implicitDefEqProofs (disch := first | omega | (simp -implicitDefEqProofs; done) | fail) [-List.map_take, -List.map_drop, -List.length_flatMap, map_take', map_drop', wrap_in, nth_nat, opt_if, dec_t, dec_f]
        · have h8 := h6' h7
          simp -implicitDefEqProofs (disch := first | omega | (simp -implicitDefEqProofs; done) | fail) [-List.map_take, -List.map_drop, -List.length_flatMap, map_take', map_drop', wrap_in, nth_nat, opt_if, dec_t, dec_f, h7, h8, e5]
          refine o_call rfl rfl knows rfl rfl ?_
          simp -implicitDefEqProofs (disch := first | omega | (simp -implicitDefEqProofs; done) | fail) [-List.map_take, -List.map_drop, -List.length_flatMap, map_take', map_drop', wrap_in, nth_nat, opt_if, dec_t, dec_f]
      · rw [if_neg h6] at e1
        rw [numS_at e1 (by omega) (by omega)] at q2
        have h7 : ¬ kind = 6 := fun h => h6 (.inl h)
        have h8 : ¬ yi = 0 := fun h => h6 (.inr h)
        rw [if_neg h7] at e2
        simp -implicitDefEqProofs (disch := first | omega | (simp -implicitDefEqProofs; done) | fail) [-List.map_take, -List.map_drop, -List.length_flatMap, map_take', map_drop', wrap_in, nth_nat, opt_if, dec_t, dec_f]
        refine o_call rfl rfl hg rfl rfl ?_
        simp -implicitDefEqProofs (disch := first | omega | (simp -implicitDefEqProofs; done) | fail) [-List.map_take, -List.map_drop, -List.length_flatMap, map_take', map_drop', wrap_in, nth_nat, opt_if, dec_t, dec_f]
        refine o_call rfl rfl q5 rfl rfl ?_
        simp -implicitDefEqProofs (disch := first | omega | (simp -implicitDefEqProofs; done) | fail) [-List.map_take, -List.map_drop, -List.length_flatMap, map_take', map_drop', wrap_in, nth_nat, opt_if, dec_t, dec_f, k1, k2, k3, k4]
        refine o_call rfl rfl q1 rfl rfl ?_
        simp -implicitDefEqProofs (disch := first | omega | (simp -implicitDefEqProofs; done) | fail) [-List.map_take, -List.map_drop, -List.length_flatMap, map_take', map_drop', wrap_in, nth_nat, opt_if, dec_t, dec_f]
        refine o_call rfl rfl q2 rfl rfl ?_
        simp -implicitDefEqProofs (disch := first | omega | (simp -implicitDefEqProofs; done) | fail) [-List.map_take, -List.map_drop, -List.length_flatMap, map_take', map_drop', wrap_in, nth_nat, opt_if, dec_t, dec_f]
        refine o_call rfl rfl q3 rfl rfl ?_
        simp -implicitDefEqProofs (disch := first | omega | (simp -implicitDefEqProofs; done) | fail) [-List.map_take, -List.map_drop, -List.length_flatMap, map_take', map_drop', wrap_in, nth_nat, opt_if, dec_t, dec_f, h7, h8, e2, hxs]
        refine o_call rfl rfl knows rfl rfl ?_
        simp -implicitDefEqProofs (disch := first | omega | (simp -implicitDefEqProofs; done) | fail) [-List.map_take, -List.map_drop, -List.length_flatMap, map_take', map_drop', wrap_in, nth_nat, opt_if, dec_t, dec_f]

end Go.Proofs.Ytgkgnpgbdeoddaa
