/- What the laws look at: messages and configurations that are not too great; the program's message as the document's. -/
import Derived.Test.YtimlalndjfmnbaaDoorConfP
namespace Go.Proofs.YtimlalndjfmnbaaDoor
open BoEng Go
set_option maxRecDepth 100000
attribute [-simp] List.map_take List.map_drop List.length_flatMap
set_option linter.unusedSimpArgs false
set_option linter.unusedVariables false

theorem lawAsM (m : Msg) : Holds Tryd.prog 14 [.d m.d] (.d m.d) (fun _ => false) := by
  refine Holds.by (by kernel_rfl) Tryd.func14 (by kernel_rfl) rfl [20001] (by simp) (by kernel_rfl) (by kernel_rfl) rfl ?_
  conv in ccs _ => cbv
  simp (config := sc) (disch := try exact dd) [std]

def smallO (o : Opt) : Bool := decide (o.data.length ≤ 1000)
def smallL (l : List Opt) : Bool := l.all smallO && decide (l.length ≤ 100)
def g3I (l : List Opt) (i : Nat) (S : PS) : Prop :=
  i ≤ l.length ∧ (l.take i).all smallO = true ∧ S.t 0 = .d (.slice (l.map Opt.d)) ∧ S.t 3 = .d (.int .i64 i)
theorem great03 (l : List Opt) (hl : l.length ≤ 9223372036854775807) : Holds Tryd.prog 20 [.d (.slice (l.map Opt.d))] (.d (.bool (!smallL l))) (fun _ => false) := by
  refine Holds.by (by kernel_rfl) Tryd.func20 (by kernel_rfl) rfl [] (by simp) (by kernel_rfl) (by kernel_rfl) rfl ?_
  conv in ccs _ => cbv
  simp (config := sc) (disch := try exact dd) [std]
  refine lp (g3I l) (fun i => l.length - i) 0 ⟨Nat.zero_le _, by simp, by simp⟩ ?_
  rintro i S ⟨hi, ha, e0, e3⟩
  by_cases hlt : i < l.length
  · have k6 : (i : Int) < l.length := by omega
    by_cases hb : l[i].data.length ≤ 1000
    · have hb' : ¬ (1000 : Int) < l[i].data.length := by omega
      simp (config := sc) (disch := try exact dd) [std, e0, e3, k6, hb']
      exact nxt_of (i + 1) ⟨by omega, allc_step hlt ha (decide_eq_true hb), by simp (config := sc) (disch := try exact dd) [std, e0, e3]⟩ (by omega)
    · have hb' : (1000 : Int) < l[i].data.length := by omega
      have hz : (!smallL l) = true := by
        have := allc_bad (p := smallO) hlt (decide_eq_false hb)
        simp [smallL, this]
      simp (config := sc) (disch := try exact dd) [std, e0, e3, k6, hb', hz]
  · have k6 : ¬ (i : Int) < l.length := by omega
    have hz : (!smallL l) = decide ((100 : Int) < l.length) := by
      have := allc_end hlt ha
      simp only [smallL, this, Bool.true_and]
      rw [Bool.eq_iff_iff]
      simp
      omega
    simp (config := sc) (disch := try exact dd) [std, e0, e3, k6, hz]

def smallM (m : Msg) : Bool := decide (m.chaddr.length ≤ 100) && smallL m.opts
theorem small_sized {m : Msg} (h : smallM m = true) : sizedM m := by
  simp only [smallM, smallL, Bool.and_eq_true, decide_eq_true_eq, List.all_eq_true, smallO] at h
  refine ⟨by omega, by omega, fun o ho => ?_⟩
  have := h.2.1 o ho
  omega
theorem great04 (m : Msg) (hl : m.opts.length ≤ 9223372036854775807) : Holds Tryd.prog 10 [.d m.d] (.d (.bool (!smallM m))) (fun _ => false) := by
  refine Holds.by (by kernel_rfl) Tryd.func10 (by kernel_rfl) rfl [20001] (by simp) (by kernel_rfl) (by kernel_rfl) rfl ?_
  conv in ccs _ => cbv
  by_cases h1 : m.chaddr.length ≤ 100
  · have h2 : ¬ (100 : Int) < m.chaddr.length := by omega
    have hz : smallM m = smallL m.opts := by simp [smallM, h1]
    rw [hz]
    simp (config := sc) (disch := try exact dd) [std, h2]
    refine oc (great03 m.opts hl) ?_
    simp (config := sc) (disch := try exact dd) [std]
  · have h2 : (100 : Int) < m.chaddr.length := by omega
    have hz : smallM m = false := by simp [smallM, h1]
    rw [hz]
    simp (config := sc) (disch := try exact dd) [std, h2]

def smallR (r : Res) : Bool := decide (r.key.length ≤ 1000)
def smallS (s : Sub) : Bool := decide (s.pools.length ≤ 20 ∧ s.res.length ≤ 20) && s.res.all smallR
def smallN (n : Net) : Bool := decide (n.subs.length ≤ 10) && n.subs.all smallS
def smallC (c : Cfg) : Bool := decide (c.nets.length ≤ 10) && c.nets.all smallN
theorem smallC_sized {c : Cfg} (h : smallC c = true) : sizedC c := by
  simp only [smallC, Bool.and_eq_true, decide_eq_true_eq, List.all_eq_true, smallN, smallS, smallR] at h
  refine ⟨by omega, fun n hn => ?_⟩
  obtain ⟨h1, h2⟩ := h.2 n hn
  refine ⟨by omega, fun s hs => ?_⟩
  obtain ⟨⟨h3, h4⟩, h5⟩ := h2 s hs
  exact ⟨by omega, by omega, fun r hr => by have := h5 r hr; omega⟩
def g13N (c : Cfg) (i : Nat) (S : PS) : Prop :=
  i ≤ c.nets.length ∧ (c.nets.take i).all smallN = true ∧ S.t 1 = .cptr (cells c.d) ∧ S.t 3 = .d (.int .i64 i)
def g13K (c : Cfg) (i : Nat) (l : List Sub) (k : Nat) (S : PS) : Prop :=
  k ≤ l.length ∧ (l.take k).all smallS = true ∧ S.t 1 = .cptr (cells c.d) ∧ S.t 3 = .d (.int .i64 i) ∧ S.t 4 = .d (.int .i64 k)
def g13R (c : Cfg) (s : Sub) (i k fo g : Nat) (n : Nat) (S : PS) : Prop :=
  n ≤ s.res.length ∧ (s.res.take n).all smallR = true ∧ S.t 1 = .cptr (cells c.d) ∧ S.t 3 = .d (.int .i64 i) ∧ S.t 4 = .d (.int .i64 k) ∧
    S.t 5 = .ptr (fo + 5) g 0 ∧ S.fo = fo ∧ S.gen (fo + 5) = g ∧ S.box (fo + 5) = (cells s.d).map .d ∧ S.t 6 = .d (.int .i64 n)
theorem great13 (c : Cfg) : Holds Tryd.prog 46 [.d c.d] (.d (.bool (!smallC c))) (fun _ => false) := by
  refine Holds.by (by kernel_rfl) Tryd.func46 (by kernel_rfl) rfl [20001] (by simp) (by kernel_rfl) (by kernel_rfl) rfl ?_
  conv in ccs _ => cbv
  by_cases h0 : c.nets.length ≤ 10
  · have h0' : ¬ (10 : Int) < c.nets.length := by omega
    have hz : smallC c = c.nets.all smallN := by simp [smallC, h0]
    rw [hz]
    simp (config := sc) (disch := try exact dd) [std, h0']
    refine lp (g13N c) (fun i => c.nets.length - i) 0 ⟨by omega, by simp, by simp (config := sc) (disch := try exact dd) [std]⟩ ?_
    rintro i S ⟨hi, ha, e1, e3⟩
    by_cases hlt : i < c.nets.length
    · have k6 : (i : Int) < c.nets.length := by omega
      by_cases h1 : c.nets[i].subs.length ≤ 10
      · have h1' : ¬ (10 : Int) < c.nets[i].subs.length := by omega
        have hpx : c.nets[i].subs.all smallS = false → (!c.nets.all smallN) = true := fun h => by
          have := allc_bad (p := smallN) hlt (by simp [smallN, h])
          simp [this]
        simp (config := sc) (disch := try exact dd) [std, e1, e3, k6, h1']
        refine lp (g13K c i c.nets[i].subs) (fun k => c.nets[i].subs.length - k) 0 ⟨by omega, by simp, by simp (config := sc) (disch := try exact dd) [std, e1, e3]⟩ ?_
        rintro k S ⟨hk, hka, e1, e3, e4⟩
        by_cases hlt2 : k < c.nets[i].subs.length
        · have k7 : (k : Int) < c.nets[i].subs.length := by omega
          have hqx := @allc_bad _ smallS _ k hlt2
          have hqy := @allc_step _ smallS _ k hlt2 hka
          generalize hx : c.nets[i].subs[k] = s at hqx hqy
          by_cases h2 : s.pools.length ≤ 20
          · have h2' : ¬ (20 : Int) < s.pools.length := by omega
            by_cases h3 : s.res.length ≤ 20
            · have h3' : ¬ (20 : Int) < s.res.length := by omega
              simp (config := sc) (disch := try exact dd) [std, e1, e3, e4, k6, k7, hx, h2', h3']
              refine lp (g13R c s i k S.fo (S.gen (S.fo + 5) + 1)) (fun n => s.res.length - n) 0 ⟨by omega, by simp, by simp (config := sc) (disch := try exact dd) [std, e1, e3, e4, hx]⟩ ?_
              rintro n S1 ⟨hn, hna, e1, e3, e4, e5, efo, eg, eb, e6⟩
              simp only [Sub.d_eq, cells_agg, List.map_cons, List.map_nil] at eb
              by_cases hlt3 : n < s.res.length
              · have k8 : (n : Int) < s.res.length := by omega
                by_cases hb : s.res[n].key.length ≤ 1000
                · have hb' : ¬ (1000 : Int) < s.res[n].key.length := by omega
                  simp (config := sc) (disch := try exact dd) [std, e1, e3, e4, e5, efo, eg, eb, e6, k8, hb']
                  exact nxt_of (n + 1) ⟨by omega, allc_step hlt3 hna (decide_eq_true hb), by simp (config := sc) (disch := try exact dd) [std, e1, e3, e4, e5, efo, eg, eb, e6]⟩ (by omega)
                · have hb' : (1000 : Int) < s.res[n].key.length := by omega
                  have hz := hpx (hqx (by simp [smallS, allc_bad (p := smallR) hlt3 (decide_eq_false hb)]))
                  simp (config := sc) (disch := try exact dd) [std, e1, e3, e4, e5, efo, eg, eb, e6, k8, hb', hz]
              · have k8 : ¬ (n : Int) < s.res.length := by omega
                have hrall := allc_end hlt3 hna
                simp (config := sc) (disch := try exact dd) [std, e1, e3, e4, e5, efo, eg, eb, e6, k8]
                exact nxt_of (k + 1) ⟨by omega, hqy (by simp [smallS, h2, h3, hrall]), by simp (config := sc) (disch := try exact dd) [std, e1, e3, e4]⟩ (by omega)
            · have h3' : (20 : Int) < s.res.length := by omega
              have hz := hpx (hqx (by simp [smallS, h3]))
              simp (config := sc) (disch := try exact dd) [std, e1, e3, e4, k6, k7, hx, h2', h3', hz]
          · have h2' : (20 : Int) < s.pools.length := by omega
            have hz := hpx (hqx (by simp [smallS, h2]))
            simp (config := sc) (disch := try exact dd) [std, e1, e3, e4, k6, k7, hx, h2', hz]
        · have k7 : ¬ (k : Int) < c.nets[i].subs.length := by omega
          have hall := allc_end hlt2 hka
          simp (config := sc) (disch := try exact dd) [std, e1, e3, e4, k6, k7]
          exact nxt_of (i + 1) ⟨by omega, allc_step hlt ha (by simp [smallN, h1, hall]), by simp (config := sc) (disch := try exact dd) [std, e1, e3, e4]⟩ (by omega)
      · have h1' : (10 : Int) < c.nets[i].subs.length := by omega
        have hz : (!c.nets.all smallN) = true := by
          have := allc_bad (p := smallN) hlt (by simp [smallN, h1])
          simp [this]
        simp (config := sc) (disch := try exact dd) [std, e1, e3, k6, h1', hz]
    · have k6 : ¬ (i : Int) < c.nets.length := by omega
      rw [allc_end hlt ha]
      simp (config := sc) (disch := try exact dd) [std, e1, e3, k6]
  · have h0' : (10 : Int) < c.nets.length := by omega
    have hz : smallC c = false := by simp [smallC, h0]
    rw [hz]
    simp (config := sc) (disch := try exact dd) [std, h0']

def plainC : Cfg := ⟨167772161, 300, [⟨[⟨167772160, 24, [⟨167772170, 167772180⟩], [⟨[105, 48, 49], 167772165⟩], 1, 167772161, 600⟩]⟩]⟩
theorem plain13 : Holds Tryd.prog 47 [] (.d plainC.d) (fun _ => false) := by
  refine Holds.by (by kernel_rfl) Tryd.func47 (by kernel_rfl) rfl [] (by simp) (by kernel_rfl) (by kernel_rfl) rfl ?_
  conv in ccs _ => cbv
  simp (config := sc) (disch := try exact dd) [std, plainC]
theorem plain_sized : sizedC plainC := by
  refine ⟨by decide, fun n hn => ?_⟩
  simp only [plainC, List.mem_singleton] at hn
  subst hn
  refine ⟨by decide, fun s hs => ?_⟩
  simp only [List.mem_singleton] at hs
  subst hs
  exact ⟨by decide, by decide, by simp⟩

end Go.Proofs.YtimlalndjfmnbaaDoor
