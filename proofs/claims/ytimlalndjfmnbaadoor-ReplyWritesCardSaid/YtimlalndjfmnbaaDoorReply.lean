/- Replies: what the program's reply and the document's layer 18 both answer. -/
import Derived.Test.YtimlalndjfmnbaaDoorOpts
import Derived.Test.YtimlalndjfmnbaaDoorConfT
import Derived.Test.YtimlalndjfmnbaaDoorGreat
namespace Go.Proofs.YtimlalndjfmnbaaDoor
open BoEng Go
set_option maxRecDepth 100000
attribute [-simp] List.map_take List.map_drop List.length_flatMap
set_option linter.unusedSimpArgs false
set_option linter.unusedVariables false

def askedS (m : Msg) (c : Int) : Bool := (findS m.opts 55).isNone || wantsS m.opts c
theorem keepS_new {l : List Opt} {c : Int} {b : List UInt8} (h : ∀ o ∈ l, o.code ≠ c) : keepS l c b = l ++ [⟨c, b⟩] := by
  unfold keepS
  congr 1
  induction l with
  | nil => rfl
  | cons o l ih =>
    rw [List.flatMap_cons, ih fun x hx => h x (List.mem_cons_of_mem _ hx)]
    simp [dropS, h o List.mem_cons_self]

def sameI (l : List Opt) (i : Nat) (S : PS) : Prop :=
  i ≤ l.length ∧ S.t 0 = .d (.slice (l.map Opt.d)) ∧ S.t 1 = .d (.slice (l.map Opt.d)) ∧ S.t 5 = .d (.int .i64 i)
theorem ref03Same (l : List Opt) (hl : l.length ≤ 9223372036854775807) : Holds Tryd.prog 25 [.d (.slice (l.map Opt.d)), .d (.slice (l.map Opt.d))] (.d (.bool true)) (fun _ => false) := by
  refine Holds.by (by kernel_rfl) Tryd.func25 (by kernel_rfl) rfl [] (by simp) (by kernel_rfl) (by kernel_rfl) rfl ?_
  conv in ccs _ => cbv
  simp (config := sc) (disch := try exact dd) [std]
  refine lp (sameI l) (fun i => l.length - i) 0 ⟨by omega, by simp⟩ ?_
  rintro i S ⟨hi, e0, e1, e5⟩
  by_cases hlt : i < l.length
  · have k6 : (i : Int) < l.length := by omega
    simp (config := sc) (disch := try exact dd) [std, e0, e1, e5, k6]
    exact nxt_of (i + 1) ⟨by omega, by simp (config := sc) (disch := try exact dd) [*, std]⟩ (by omega)
  · have k6 : ¬ (i : Int) < l.length := by omega
    simp (config := sc) (disch := try exact dd) [std, e0, e1, e5, k6]

theorem ref04Same (m : Msg) (hl : m.opts.length ≤ 9223372036854775807) : Holds Tryd.prog 19 [.d m.d, .d m.d] (.d (.bool true)) (fun _ => false) := by
  refine Holds.by (by kernel_rfl) Tryd.func19 (by kernel_rfl) rfl [20002, 20003] (by simp) (by kernel_rfl) (by kernel_rfl) rfl ?_
  conv in ccs _ => cbv
  simp (config := sc) (disch := try exact dd) [std]
  refine oc (ref03Same m.opts hl) ?_
  simp (config := sc) (disch := try exact dd) [std]

theorem replyAsked (m : Msg) (c : Int) (hm : sizedM m) : Holds Tryd.prog 48 [.d m.d, .d (.int .i64 c)] (.d (.bool (askedS m c))) (fun _ => false) := by
  refine Holds.by (by kernel_rfl) Tryd.func48 (by kernel_rfl) rfl [20002] (by simp) (by kernel_rfl) (by kernel_rfl) rfl ?_
  conv in ccs _ => cbv
  have q1 := tlvFind m.opts 55 hm.2
  have q2 := optsWants m.opts c hm.2
  unfold askedS
  cases h : findS m.opts 55 with
  | none =>
    rw [h] at q1
    repeat' (first | (simp (config := sc) (disch := try exact dd) [*, std]) | (refine oc (q1) ?_) | (refine oc (q2) ?_) | (refine sel_by ?_ ?_ <;> intro hc <;> have hc2 := hc <;> (try simp only [decide_eq_true_eq, decide_eq_false_iff_not, Bool.and_eq_true, Bool.or_eq_true, Bool.not_eq_true', Bool.not_eq_false', Bool.or_eq_false_iff, Bool.and_eq_false_iff] at hc2) <;> try omega) | (refine cnd_by ?_ ?_ <;> intro hc <;> have hc2 := hc <;> (try simp only [decide_eq_true_eq, decide_eq_false_iff_not, Bool.and_eq_true, Bool.or_eq_true, Bool.not_eq_true', Bool.not_eq_false', Bool.or_eq_false_iff, Bool.and_eq_false_iff] at hc2) <;> try omega) | (refine onSt_if (by omega) ?_) | (split <;> try omega) | omega)
  | some d =>
    rw [h] at q1
    repeat' (first | (simp (config := sc) (disch := try exact dd) [*, std]) | (refine oc (q1) ?_) | (refine oc (q2) ?_) | (refine sel_by ?_ ?_ <;> intro hc <;> have hc2 := hc <;> (try simp only [decide_eq_true_eq, decide_eq_false_iff_not, Bool.and_eq_true, Bool.or_eq_true, Bool.not_eq_true', Bool.not_eq_false', Bool.or_eq_false_iff, Bool.and_eq_false_iff] at hc2) <;> try omega) | (refine cnd_by ?_ ?_ <;> intro hc <;> have hc2 := hc <;> (try simp only [decide_eq_true_eq, decide_eq_false_iff_not, Bool.and_eq_true, Bool.or_eq_true, Bool.not_eq_true', Bool.not_eq_false', Bool.or_eq_false_iff, Bool.and_eq_false_iff] at hc2) <;> try omega) | (refine onSt_if (by omega) ?_) | (split <;> try omega) | omega)

/-- The subnet of two places. -/
def subC (c : Cfg) (net sub : Int) : Option Sub := if 0 ≤ net ∧ 0 ≤ sub then (c.nets[net.toNat]?).bind fun n => n.subs[sub.toNat]? else none
def kindOk (k : Int) : Bool := decide (k = 2) || decide (k = 5) || decide (k = 6)
def fairR (c : Cfg) (net sub : Int) (m : Msg) (kind yi : Int) : Bool := decide (checkS c = 0) && (subC c net sub).isSome && rightM m && rightA yi && kindOk kind

theorem kind_iff {k : Int} : kindOk k = true ↔ k = 2 ∨ k = 5 ∨ k = 6 := by simp [kindOk, or_assoc]
theorem fairR_parts {c : Cfg} {net sub : Int} {m : Msg} {kind yi : Int} (h : fairR c net sub m kind yi = true) :
    checkS c = 0 ∧ ∃ (n k : Nat) (hn : n < c.nets.length) (hk : k < c.nets[n].subs.length), net = n ∧ sub = k ∧ subC c net sub = some (c.nets[n].subs[k]) ∧ rightM m = true ∧ rightA yi = true ∧ kindOk kind = true := by
  simp only [fairR, Bool.and_eq_true, decide_eq_true_eq] at h
  obtain ⟨⟨⟨⟨h1, h2⟩, h3⟩, h4⟩, h5⟩ := h
  have h2' := h2
  unfold subC at h2
  split at h2
  · rename_i hz
    obtain ⟨n, rfl⟩ := Int.eq_ofNat_of_zero_le hz.1
    obtain ⟨k, rfl⟩ := Int.eq_ofNat_of_zero_le hz.2
    simp only [Int.toNat_natCast] at h2
    by_cases hn : n < c.nets.length
    · rw [List.getElem?_eq_getElem hn, Option.bind_some] at h2
      by_cases hk : k < c.nets[n].subs.length
      · refine ⟨h1, n, k, hn, hk, rfl, rfl, ?_, h3, h4, h5⟩
        unfold subC
        rw [if_pos hz]
        simp only [Int.toNat_natCast]
        rw [List.getElem?_eq_getElem hn, Option.bind_some, List.getElem?_eq_getElem hk]
      · rw [List.getElem?_eq_none (by omega)] at h2
        cases h2
    · rw [List.getElem?_eq_none (by omega)] at h2
      cases h2
  · cases h2
theorem replyFair (c : Cfg) (net sub : Int) (m : Msg) (kind yi : Int) (hc : sizedC c) (hm : sizedM m) :
    Holds Tryd.prog 49 [.d c.d, .d (.int .i64 net), .d (.int .i64 sub), .d m.d, .d (.int .i64 kind), .d (.int .i64 yi)] (.d (.bool (fairR c net sub m kind yi))) (fun _ => false) := by
  refine Holds.by (by kernel_rfl) Tryd.func49 (by kernel_rfl) rfl [20006, 20009] (by simp) (by kernel_rfl) (by kernel_rfl) rfl ?_
  conv in ccs _ => cbv
  have q1 := confCheck c hc
  have q2 := msgRight m hm
  have q3 := addrRight yi
  have hl := hc.1
  by_cases h1 : checkS c = 0
  · by_cases h2 : net < 0
    · have hz : fairR c net sub m kind yi = false := by
        have : ¬ (0 ≤ net ∧ 0 ≤ sub) := by omega
        simp [fairR, subC, this]
      rw [hz]
      rw [h1] at q1
      simp (config := sc) (disch := try exact dd) [std]
      refine oc q1 ?_
      simp (config := sc) (disch := try exact dd) [std, h2]
    · obtain ⟨n, rfl⟩ := Int.eq_ofNat_of_zero_le (show 0 ≤ net by omega)
      by_cases h3 : n < c.nets.length
      · have h3' : ¬ (c.nets.length : Int) ≤ n := by omega
        have hl2 := (hc.2 _ (List.getElem_mem h3)).1
        by_cases h4 : sub < 0
        · have hz : fairR c n sub m kind yi = false := by
            have : ¬ (0 ≤ (n : Int) ∧ 0 ≤ sub) := by omega
            simp only [fairR, subC, if_neg this]
            simp
          rw [hz]
          rw [h1] at q1
          simp (config := sc) (disch := try exact dd) [std]
          refine oc q1 ?_
          simp (config := sc) (disch := try exact dd) [std, h2, h3', h4]
        · obtain ⟨k, rfl⟩ := Int.eq_ofNat_of_zero_le (show 0 ≤ sub by omega)
          by_cases h5 : k < c.nets[n].subs.length
          · have h5' : ¬ (c.nets[n].subs.length : Int) ≤ k := by omega
            have hz : fairR c n k m kind yi = (rightM m && rightA yi && kindOk kind) := by
              have : 0 ≤ (n : Int) ∧ 0 ≤ (k : Int) := by omega
              simp only [fairR, subC, if_pos this, Int.toNat_natCast, List.getElem?_eq_getElem h3, Option.bind_some, List.getElem?_eq_getElem h5, h1]
              simp
            rw [hz]
            rw [h1] at q1
            unfold kindOk
            cases hr : rightM m with
            | false =>
              rw [hr] at q2
              simp (config := sc) (disch := try exact dd) [std]
              refine oc q1 ?_
              simp (config := sc) (disch := try exact dd) [std, h2, h3', h4, h5']
              refine oc q2 ?_
              simp (config := sc) (disch := try exact dd) [std]
            | true =>
              rw [hr] at q2
              simp (config := sc) (disch := try exact dd) [std]
              refine oc q1 ?_
              simp (config := sc) (disch := try exact dd) [std, h2, h3', h4, h5']
              refine oc q2 ?_
              simp (config := sc) (disch := try exact dd) [std]
              refine oc q3 ?_
              cases rightA yi with
              | false => simp (config := sc) (disch := try exact dd) [std]
              | true =>
                by_cases g1 : kind = 2
                · simp (config := sc) (disch := try exact dd) [std, g1]
                · by_cases g2 : kind = 5
                  · simp (config := sc) (disch := try exact dd) [std, g1, g2]
                  · simp (config := sc) (disch := try exact dd) [std, g1, g2]
          · have h5' : (c.nets[n].subs.length : Int) ≤ k := by omega
            have hz : fairR c n k m kind yi = false := by
              simp only [fairR, subC, Int.toNat_natCast, List.getElem?_eq_getElem h3, Option.bind_some, List.getElem?_eq_none (show c.nets[n].subs.length ≤ k by omega)]
              simp
            rw [hz]
            rw [h1] at q1
            simp (config := sc) (disch := try exact dd) [std]
            refine oc q1 ?_
            simp (config := sc) (disch := try exact dd) [std, h2, h3', h4, h5']
      · have h3' : (c.nets.length : Int) ≤ n := by omega
        have hz : fairR c n sub m kind yi = false := by
          simp only [fairR, subC, Int.toNat_natCast, List.getElem?_eq_none (show c.nets.length ≤ n by omega)]
          simp
        rw [hz]
        rw [h1] at q1
        simp (config := sc) (disch := try exact dd) [std]
        refine oc q1 ?_
        simp (config := sc) (disch := try exact dd) [std, h2, h3']
  · have hz : fairR c net sub m kind yi = false := by simp [fairR, h1]
    rw [hz]
    simp (config := sc) (disch := try exact dd) [std]
    refine oc q1 ?_
    simp (config := sc) (disch := try exact dd) [std, h1]

def setM (o : Msg) (c v : Int) (n : Nat) : Msg := { o with opts := o.opts ++ [⟨c, putI v n⟩] }
theorem replySet (o : Msg) (c v : Int) (n : Nat) (ho : sized o.opts) (hk : setOk c v n = true) (hn : ∀ x ∈ o.opts, x.code ≠ c) (nm g : Nat) (hg : 0 < g) {fo : Nat} {gl : Nat → Nat} :
    Meets Tryd.prog fo gl 50 [.d (.int .i64 c), .d (.int .i64 v), .d (.int .i64 n), .ptr nm g 0] [⟨nm, g, (cells o.d).map .d, fun _ => false⟩] (.tup []) (fun _ => false) [⟨nm, g, (cells (setM o c v n).d).map .d, fun _ => false⟩] := by
  refine Meets.by (by kernel_rfl) Tryd.func50 (by kernel_rfl) rfl [] (by simp) (by kernel_rfl) (by kernel_rfl) (by simp [namesIn, namesL, hg]) (by simp [namesIn, namesL, hg]) (by simp [hg]) ?_
  conv in ccs _ => cbv
  have q := optsSet o.opts c v n ho
  rw [hk, keepS_new hn] at q
  simp (config := sc) (disch := try exact dd) [std]
  refine oc q ?_
  simp (config := sc) (disch := try exact dd) [std, setM]

def echoL (m : Msg) (c : Int) : List Opt := match findS m.opts c with | some b => [⟨c, b⟩] | none => []
def echoM (o m : Msg) (c : Int) : Msg := { o with opts := o.opts ++ echoL m c }
theorem right_data {m : Msg} (h : rightM m = true) {c : Int} {b : List UInt8} (hb : findS m.opts c = some b) : b.length ≤ 600 := by
  have h1 : rightO m.opts = true := by
    simp only [rightM, Bool.and_eq_true] at h
    exact h.1.2
  simp only [rightO, Bool.and_eq_true, List.all_eq_true, okO, decide_eq_true_eq] at h1
  unfold findS at hb
  simp only [Option.map_eq_some_iff] at hb
  obtain ⟨o, ho, rfl⟩ := hb
  exact (h1.1.2 o (List.mem_of_find?_eq_some ho)).2
theorem echoL_code {m : Msg} {c : Int} : ∀ x ∈ echoL m c, x.code = c := by
  unfold echoL
  split <;> simp
theorem echoL_data {m : Msg} (h : rightM m = true) {c : Int} : ∀ x ∈ echoL m c, x.data.length ≤ 600 := by
  unfold echoL
  split
  · rename_i b hb
    simp only [List.mem_singleton]
    rintro x rfl
    exact right_data h hb
  · simp
theorem echoL_len {m : Msg} {c : Int} : (echoL m c).length ≤ 1 := by
  unfold echoL
  split <;> simp
theorem replyEcho (o m : Msg) (c : Int) (ho : sized o.opts) (hm : sizedM m) (hr : rightM m = true) (hc : 1 ≤ c ∧ c ≤ 254) (hn : ∀ x ∈ o.opts, x.code ≠ c) (nm g : Nat) (hg : 0 < g) {fo : Nat} {gl : Nat → Nat} :
    Meets Tryd.prog fo gl 52 [.d (.int .i64 c), .cptr (cells m.d), .ptr nm g 0] [⟨nm, g, (cells o.d).map .d, fun _ => false⟩] (.tup []) (fun _ => false) [⟨nm, g, (cells (echoM o m c).d).map .d, fun _ => false⟩] := by
  refine Meets.by (by kernel_rfl) Tryd.func52 (by kernel_rfl) rfl [] (by simp) (by kernel_rfl) (by kernel_rfl) (by simp [namesIn, namesL, hg]) (by simp [namesIn, namesL, hg]) (by simp [hg]) ?_
  conv in ccs _ => cbv
  have q1 := tlvFind m.opts c hm.2
  unfold echoM echoL
  cases h : findS m.opts c with
  | none =>
    rw [h] at q1
    simp (config := sc) (disch := try exact dd) [std]
    refine oc q1 ?_
    simp (config := sc) (disch := try exact dd) [std]
  | some b =>
    rw [h] at q1
    have q2 := optsKeep o.opts c b ho
    have hk : keepOk c b = true := by simp only [keepOk, decide_eq_true_eq]; exact ⟨hc, right_data hr h⟩
    rw [hk, keepS_new hn] at q2
    simp (config := sc) (disch := try exact dd) [std]
    refine oc q1 ?_
    simp (config := sc) (disch := try exact dd) [std]
    refine oc q2 ?_
    simp (config := sc) (disch := try exact dd) [std]

def maskA (bits : Int) : Int := 4294967296 - sizeA bits
def flagR (m : Msg) (kind : Int) : Int := if kind = 6 ∧ m.gi ≠ 0 ∧ m.flags < 32768 then m.flags + 32768 else m.flags
/-- What is told besides the kind and the server. -/
def optT (s : Sub) (yi : Int) : List Opt := if yi = 0 then [] else [⟨51, putI s.time 4⟩]
def optK (s : Sub) (m : Msg) : List Opt := if askedS m 1 then [⟨1, putI (maskA s.bits) 4⟩] else []
def optR (s : Sub) (m : Msg) : List Opt := if s.router = 0 then [] else if askedS m 3 then [⟨3, putI s.router 4⟩] else []
def optM (s : Sub) (m : Msg) (kind yi : Int) : List Opt := if kind = 6 then [] else optT s yi ++ optK s m ++ optR s m
def optB (c : Cfg) (s : Sub) (m : Msg) (kind yi : Int) : List Opt := [⟨53, putI kind 1⟩, ⟨54, putI c.server 4⟩] ++ optM s m kind yi
/-- The reply. -/
def makeM (c : Cfg) (s : Sub) (m : Msg) (kind yi : Int) : Msg :=
  { op := 2, htype := m.htype, hlen := m.hlen, hops := 0, xid := m.xid, secs := 0, flags := flagR m kind, ci := if kind = 5 then m.ci else 0, yi := if kind = 6 then 0 else yi, si := 0, gi := m.gi, chaddr := m.chaddr,
    opts := optB c s m kind yi ++ echoL m 61 ++ echoL m 82 }
def msg0 : Msg := ⟨0, 0, 0, 0, 0, 0, 0, 0, 0, 0, 0, [], []⟩
def makeO (c : Cfg) (net sub : Int) (m : Msg) (kind yi : Int) : Option Msg := if fairR c net sub m kind yi then (subC c net sub).map fun s => makeM c s m kind yi else none
theorem makeO_f {c : Cfg} {net sub : Int} {m : Msg} {kind yi : Int} (h : fairR c net sub m kind yi = false) : makeO c net sub m kind yi = none := by simp [makeO, h]

end Go.Proofs.YtimlalndjfmnbaaDoor
