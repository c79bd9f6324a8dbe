/- The laws of chapter 11, walked. -/
import Derived.Test.YtkbidfohcanijaaClean2
import Derived.Test.YtkbidfohcanijaaKept
import Derived.Test.YtkbidfohcanijaaReadFew
namespace Go.Proofs.Ytkbidfohcanijaa
open BoEng Go
set_option maxRecDepth 100000
attribute [-simp] List.map_take List.map_drop List.length_flatMap
set_option linter.unusedSimpArgs false
set_option linter.unusedVariables false

def smallE (l : LeaseR) : Bool := decide (l.key.length ≤ 1000)
def smallLs (ls : List LeaseR) : Bool := ls.all smallE && decide (ls.length ≤ 200)
def LsOk (ls : List LeaseR) : Prop := ls.length ≤ 9223372036854775807 ∧ ∀ l ∈ ls, l.key.length ≤ 9223372036854775807
def gr11I (ls : List LeaseR) (i : Nat) (S : PS) : Prop :=
  i ≤ ls.length ∧ (ls.take i).all smallE = true ∧ S.t 0 = .d (.slice (ls.map LeaseR.d)) ∧ S.t 3 = .d (.int .i64 i)
theorem great11 (ls : List LeaseR) (hl : LsOk ls) : Holds Try.prog 12 [.d (.slice (ls.map LeaseR.d))] (.d (.bool (!smallLs ls))) (fun _ => false) := by
  refine Holds.by (by kernel_rfl) Try.func12 (by kernel_rfl) rfl [] (by simp) (by kernel_rfl) (by kernel_rfl) rfl ?_
  conv in ccs _ => cbv
  obtain ⟨h1, h2⟩ := hl
  simp (config := sc) (disch := first | omega | (simp (config := sc) <;> omega) | (simp (config := sc) [*] <;> omega) | fail) [std]
  refine lp (gr11I ls) (fun i => ls.length - i) 0 ⟨by omega, by simp, by simp, by simp⟩ ?_
  rintro i S ⟨hi, ha, e0, e3⟩
  by_cases hlt : i < ls.length
  · have k6 : (i : Int) < ls.length := by omega
    have hn : nth ls (i : Int) = ls[i] := nth_nat hlt
    have hk := h2 _ (List.getElem_mem hlt)
    by_cases hb : ls[i].key.length ≤ 1000
    · have hb' : ¬ (1000 : Int) < ls[i].key.length := by omega
      have hstep := all_step (p := smallE) hlt ha (decide_eq_true hb)
      generalize ls[i] = a at *
      simp (config := sc) (disch := first | omega | (simp (config := sc) <;> omega) | (simp (config := sc) [*] <;> omega) | fail) [std, e0, e3, k6, hn, hb']
      exact nxt_of (i + 1) ⟨by omega, hstep, by simp (config := sc) (disch := first | omega | (simp (config := sc) <;> omega) | (simp (config := sc) [*] <;> omega) | fail) [std, e0], by simp⟩ (by omega)
    · have hb' : (1000 : Int) < ls[i].key.length := by omega
      have hz : (!smallLs ls) = true := by
        have := all_bad (p := smallE) hlt (decide_eq_false hb)
        simp [smallLs, this]
      generalize ls[i] = a at *
      simp (config := sc) (disch := first | omega | (simp (config := sc) <;> omega) | (simp (config := sc) [*] <;> omega) | fail) [std, e0, e3, k6, hn, hb', hz]
  · have k6 : ¬ (i : Int) < ls.length := by omega
    have hal := all_end hlt ha
    by_cases c1 : (200 : Int) < ls.length
    · have hz : smallLs ls = false := by
        rw [Bool.eq_false_iff]
        simp only [smallLs, ne_eq, Bool.and_eq_true, decide_eq_true_eq]
        omega
      simp (config := sc) (disch := first | omega | (simp (config := sc) <;> omega) | (simp (config := sc) [*] <;> omega) | fail) [std, e0, e3, k6, c1, hz]
    · have hz : smallLs ls = true := by
        simp only [smallLs, Bool.and_eq_true, decide_eq_true_eq]
        exact ⟨hal, by omega⟩
      simp (config := sc) (disch := first | omega | (simp (config := sc) <;> omega) | (simp (config := sc) [*] <;> omega) | fail) [std, e0, e3, k6, c1, hz]
theorem small11 {ls : List LeaseR} (h : smallLs ls = true) : ls.length ≤ 200 ∧ ∀ l ∈ ls, l.key.length ≤ 1000 := by
  simp only [smallLs, Bool.and_eq_true, decide_eq_true_eq, List.all_eq_true, smallE] at h
  exact ⟨h.2, h.1⟩

def k11A : LeaseR := ⟨2, 1, 0, [105, 97, 97]⟩
def k11B : LeaseR := ⟨1, 1, 0, [105, 98, 98]⟩
def k11C : LeaseR := ⟨2, 1, 0, [105, 99, 99]⟩
def k11D : Dk := kdL [k11A, k11B, k11C]
def k11M : List ChR := putC (bytesL [k11B, k11C])
theorem k11_1 : lastL [k11A, k11B, k11C] = [k11B, k11C] := by kernel_rfl
theorem k11_2 : changesC dk0 [k11B, k11C] = (k11M, 0) := by kernel_rfl
theorem k11_3 : dueJ k11D 2 = true := by kernel_rfl
theorem k11_4 : dueJ k11D 3 = false := by kernel_rfl
theorem k11_5 : kdL ([k11A, k11B, k11C].take 10) = k11D := rfl
theorem k11_6 : (readJ (getS k11D [106]).1).1.length ≤ 20000 := read_few _
theorem knows11 : Holds Try.prog 13 [] (.d (.bool true)) (fun _ => false) := by
  refine Holds.by (by kernel_rfl) Try.func13 (by kernel_rfl) rfl [3025001, 3026002, 3027003, 3007007] (by simp) (by kernel_rfl) (by kernel_rfl) rfl ?_
  conv in ccs _ => cbv
  have hr := (kd_sd [k11A, k11B, k11C] (by simp)).1.c.r
  have q1 := cleanLast [k11A, k11B, k11C] (by simp)
  have q2 := cleanChanges dk0 ok0 [k11B, k11C] (by simp) (by simp [k11B, k11C])
  have q3 := law10Kept [k11A, k11B, k11C] (by simp) (by simp [k11A, k11B, k11C])
  have q4 := cleanDue k11D (ok_right hr) 2 k11_6
  have q5 := cleanDue k11D (ok_right hr) 3 k11_6
  rw [k11_1] at q1
  rw [k11_2] at q2
  rw [k11_5] at q3
  rw [k11_3] at q4
  rw [k11_4] at q5
  generalize keptL ([k11A, k11B, k11C].take 10) = kp at *
  have hm : k11M.length = 4 := rfl
  have eA : k11A.d = .agg [.int .i64 2, .int .i64 1, .int .i64 0, .str [105, 97, 97]] := rfl
  have eB : k11B.d = .agg [.int .i64 1, .int .i64 1, .int .i64 0, .str [105, 98, 98]] := rfl
  have eC : k11C.d = .agg [.int .i64 2, .int .i64 1, .int .i64 0, .str [105, 99, 99]] := rfl
  have e0 : dk0.d = .agg [.slice [], .slice [], .slice []] := rfl
  simp only [List.map_cons, List.map_nil, eA, eB, eC, e0] at q1 q2 q3
  generalize k11M = M at *
  generalize k11D = D at *
  clear eA eB eC e0 hr
  simp (config := sc) (disch := first | omega | (simp (config := sc) <;> omega) | (simp (config := sc) [*] <;> omega) | fail) [std]
  refine o_call rfl rfl q1 rfl rfl ?_
  simp (config := sc) (disch := first | omega | (simp (config := sc) <;> omega) | (simp (config := sc) [*] <;> omega) | fail) [std]
  refine o_call rfl rfl q2 rfl rfl ?_
  simp (config := sc) (disch := first | omega | (simp (config := sc) <;> omega) | (simp (config := sc) [*] <;> omega) | fail) [std]
  refine o_call rfl rfl q3 rfl rfl ?_
  simp (config := sc) (disch := first | omega | (simp (config := sc) <;> omega) | (simp (config := sc) [*] <;> omega) | fail) [std, hm]
  refine o_call rfl rfl q4 rfl rfl ?_
  simp (config := sc) (disch := first | omega | (simp (config := sc) <;> omega) | (simp (config := sc) [*] <;> omega) | fail) [std, hm]
  refine o_call rfl rfl q5 rfl rfl ?_
  simp (config := sc) (disch := first | omega | (simp (config := sc) <;> omega) | (simp (config := sc) [*] <;> omega) | fail) [std, hm]

theorem lawCLasts (ls : List LeaseR) (hl : LsOk ls) : Holds Try.prog 3 [.d (.slice (ls.map LeaseR.d))] (.d (.bool true)) (fun _ => false) := by
  refine Holds.by (by kernel_rfl) Try.func3 (by kernel_rfl) rfl [] (by simp) (by kernel_rfl) (by kernel_rfl) rfl ?_
  conv in ccs _ => cbv
  have g1 := great11 ls hl
  cases h1 : smallLs ls with
  | false =>
    rw [h1] at g1
    simp (config := sc) (disch := first | omega | (simp (config := sc) <;> omega) | (simp (config := sc) [*] <;> omega) | fail) [std]
    refine o_call rfl rfl g1 rfl rfl ?_
    simp (config := sc) (disch := first | omega | (simp (config := sc) <;> omega) | (simp (config := sc) [*] <;> omega) | fail) [std]
    refine o_call rfl rfl knows11 rfl rfl ?_
    simp (config := sc) (disch := first | omega | (simp (config := sc) <;> omega) | (simp (config := sc) [*] <;> omega) | fail) [std]
  | true =>
    rw [h1] at g1
    obtain ⟨h2, h3⟩ := small11 h1
    have q1 := cleanLast ls (by omega)
    have q2 := ref11Last ls (by omega)
    have hll := lastL_len ls
    generalize lastL ls = xs at *
    have q3 := ref10SameLeases xs xs (by omega) (by omega)
    have hdt : decide (xs = xs) = true := by simp
    rw [hdt] at q3
    simp (config := sc) (disch := first | omega | (simp (config := sc) <;> omega) | (simp (config := sc) [*] <;> omega) | fail) [std]
    refine o_call rfl rfl g1 rfl rfl ?_
    simp (config := sc) (disch := first | omega | (simp (config := sc) <;> omega) | (simp (config := sc) [*] <;> omega) | fail) [std]
    refine o_call rfl rfl q1 rfl rfl ?_
    simp (config := sc) (disch := first | omega | (simp (config := sc) <;> omega) | (simp (config := sc) [*] <;> omega) | fail) [std]
    refine o_call rfl rfl q2 rfl rfl ?_
    simp (config := sc) (disch := first | omega | (simp (config := sc) <;> omega) | (simp (config := sc) [*] <;> omega) | fail) [std]
    refine o_call rfl rfl q3 rfl rfl ?_
    simp (config := sc) (disch := first | omega | (simp (config := sc) <;> omega) | (simp (config := sc) [*] <;> omega) | fail) [std]
    refine o_call rfl rfl knows11 rfl rfl ?_
    simp (config := sc) (disch := first | omega | (simp (config := sc) <;> omega) | (simp (config := sc) [*] <;> omega) | fail) [std]

theorem lawCDue (k : Dk) (many : Int) (hk : DkOk k) : Holds Try.prog 4 [.d k.d, .d (.int .i64 many)] (.d (.bool true)) (fun _ => false) := by
  refine Holds.by (by kernel_rfl) Try.func4 (by kernel_rfl) rfl [20002, 50008, 50011] (by simp) (by kernel_rfl) (by kernel_rfl) rfl ?_
  conv in ccs _ => cbv
  have g1 := great08 k hk
  cases h1 : smallK k with
  | false =>
    rw [h1] at g1
    simp (config := sc) (disch := first | omega | (simp (config := sc) <;> omega) | (simp (config := sc) [*] <;> omega) | fail) [std, Dk.d]
    refine o_call rfl rfl g1 rfl rfl ?_
    simp (config := sc) (disch := first | omega | (simp (config := sc) <;> omega) | (simp (config := sc) [*] <;> omega) | fail) [std]
    refine o_call rfl rfl knows11 rfl rfl ?_
    simp (config := sc) (disch := first | omega | (simp (config := sc) <;> omega) | (simp (config := sc) [*] <;> omega) | fail) [std]
  | true =>
    rw [h1] at g1
    have ok := small_ok h1 hk
    have hf := read_few k
    have q1 := cleanDue k ok many (by omega)
    have q2 := ref11Due k ok many (by omega)
    have q3 := lawAs k ok.1
    generalize dueJ k many = x at *
    simp (config := sc) (disch := first | omega | (simp (config := sc) <;> omega) | (simp (config := sc) [*] <;> omega) | fail) [std, Dk.d]
    refine o_call rfl rfl g1 rfl rfl ?_
    simp (config := sc) (disch := first | omega | (simp (config := sc) <;> omega) | (simp (config := sc) [*] <;> omega) | fail) [std]
    refine o_call rfl rfl q1 rfl rfl ?_
    simp (config := sc) (disch := first | omega | (simp (config := sc) <;> omega) | (simp (config := sc) [*] <;> omega) | fail) [std]
    refine o_call rfl rfl q3 rfl rfl ?_
    simp (config := sc) (disch := first | omega | (simp (config := sc) <;> omega) | (simp (config := sc) [*] <;> omega) | fail) [std, Dk.d]
    refine o_call rfl rfl q2 rfl rfl ?_
    simp (config := sc) (disch := first | omega | (simp (config := sc) <;> omega) | (simp (config := sc) [*] <;> omega) | fail) [std]
    refine o_call rfl rfl knows11 rfl rfl ?_
    simp (config := sc) (disch := first | omega | (simp (config := sc) <;> omega) | (simp (config := sc) [*] <;> omega) | fail) [std]

theorem lawCAgain (ls : List LeaseR) (hl : LsOk ls) : Holds Try.prog 5 [.d (.slice (ls.map LeaseR.d))] (.d (.bool true)) (fun _ => false) := by
  refine Holds.by (by kernel_rfl) Try.func5 (by kernel_rfl) rfl [] (by simp) (by kernel_rfl) (by kernel_rfl) rfl ?_
  conv in ccs _ => cbv
  have g1 := great11 ls hl
  cases h1 : smallLs ls with
  | false =>
    rw [h1] at g1
    simp (config := sc) (disch := first | omega | (simp (config := sc) <;> omega) | (simp (config := sc) [*] <;> omega) | fail) [std]
    refine o_call rfl rfl g1 rfl rfl ?_
    simp (config := sc) (disch := first | omega | (simp (config := sc) <;> omega) | (simp (config := sc) [*] <;> omega) | fail) [std]
    refine o_call rfl rfl knows11 rfl rfl ?_
    simp (config := sc) (disch := first | omega | (simp (config := sc) <;> omega) | (simp (config := sc) [*] <;> omega) | fail) [std]
  | true =>
    rw [h1] at g1
    obtain ⟨h2, h3⟩ := small11 h1
    have hll := lastL_len ls
    have q1 := cleanLast ls (by omega)
    have q2 := cleanLast (lastL ls) (by omega)
    have q4 := cleanLast (ls ++ lastL ls) (by simp; omega)
    rw [lastL_again] at q2
    rw [lastL_twice, List.map_append] at q4
    generalize lastL ls = xs at *
    have q3 := ref10SameLeases xs xs (by omega) (by omega)
    have hdt : decide (xs = xs) = true := by simp
    rw [hdt] at q3
    simp (config := sc) (disch := first | omega | (simp (config := sc) <;> omega) | (simp (config := sc) [*] <;> omega) | fail) [std]
    refine o_call rfl rfl g1 rfl rfl ?_
    simp (config := sc) (disch := first | omega | (simp (config := sc) <;> omega) | (simp (config := sc) [*] <;> omega) | fail) [std]
    refine o_call rfl rfl q1 rfl rfl ?_
    simp (config := sc) (disch := first | omega | (simp (config := sc) <;> omega) | (simp (config := sc) [*] <;> omega) | fail) [std]
    refine o_call rfl rfl q2 rfl rfl ?_
    simp (config := sc) (disch := first | omega | (simp (config := sc) <;> omega) | (simp (config := sc) [*] <;> omega) | fail) [std]
    refine o_call rfl rfl q4 rfl rfl ?_
    simp (config := sc) (disch := first | omega | (simp (config := sc) <;> omega) | (simp (config := sc) [*] <;> omega) | fail) [std]
    refine o_call rfl rfl q3 rfl rfl ?_
    simp (config := sc) (disch := first | omega | (simp (config := sc) <;> omega) | (simp (config := sc) [*] <;> omega) | fail) [std]
    refine o_call rfl rfl q3 rfl rfl ?_
    simp (config := sc) (disch := first | omega | (simp (config := sc) <;> omega) | (simp (config := sc) [*] <;> omega) | fail) [std]
    refine o_call rfl rfl knows11 rfl rfl ?_
    simp (config := sc) (disch := first | omega | (simp (config := sc) <;> omega) | (simp (config := sc) [*] <;> omega) | fail) [std]

theorem lawCWhole (ls : List LeaseR) (hl : LsOk ls) : Holds Try.prog 6 [.d (.slice (ls.map LeaseR.d))] (.d (.bool true)) (fun _ => false) := by
  refine Holds.by (by kernel_rfl) Try.func6 (by kernel_rfl) rfl [3035003, 3009009] (by simp) (by kernel_rfl) (by kernel_rfl) rfl ?_
  conv in ccs _ => cbv
  have q1 := law10Kept ls hl.1 hl.2
  obtain ⟨hsd, hnm⟩ := kd_sd (ls.take 10) (by simp; omega)
  have hkl := keptL_len (ls.take 10)
  simp only [List.length_take] at hkl
  have hrk : ∀ l ∈ keptL (ls.take 10), rightL l = true := fun l hl => (List.mem_filter.1 hl).2
  generalize kdL (ls.take 10) = d at *
  generalize keptL (ls.take 10) = kp at *
  have q2 := cleanLast kp (by omega)
  have q2' := ref11Last kp (by omega)
  have hll := lastL_len kp
  have hlr : ∀ l ∈ lastL kp, rightL l = true := fun l hl => hrk l (lastL_mem hl)
  have hag := lastL_again kp
  generalize lastL kp = xs at *
  have hky : ∀ l ∈ xs, l.key.length ≤ 1000000 := fun l hl => by have := key_len (right_rng (hlr l hl)).2.2.2; omega
  have q3 := cleanChanges d (ok_right hsd.c.r) xs (by omega) hky
  have hB := bytes_few hlr
  have hB2 : (bytesL xs).length ≤ 20000 := by omega
  have he : (changesC d xs).2 = 0 := by rw [clean_eq hlr hB2]
  have hrun := clean_run hsd hnm hlr hB2 (changesC d xs).1.length
  obtain ⟨f1, f2⟩ := changes_few d xs
  have q4 := journalDo d (ok_right hsd.c.r) (changesC d xs).1 (by omega) f2 ((changesC d xs).1.length : Nat)
  rw [good_id hsd.c.r, Int.toNat_natCast] at q4
  rw [he] at q3
  generalize (changesC d xs).1 = cs at *
  generalize doS cs cs.length d = r at *
  obtain ⟨x, n⟩ := r
  have hn : n = cs.length := by have := hrun.num; simpa using this
  have hx := hrun.all hn
  dsimp only at q4 hx
  subst hn
  obtain ⟨w, hw⟩ := hx.read
  have q5 := journalRead x (ok_right hx.c.r) (by have := get_len x [106]; omega)
  have hwf : (readJ (getS x [106]).1).1.length ≤ 20000 := by rw [hw]; show xs.length ≤ 20000; omega
  have q6 := cleanDue x (ok_right hx.c.r) 0 hwf
  have hdue : dueJ x 0 = false := by
    unfold dueJ
    rw [hw]
    simp [hag]
  rw [hdue] at q6
  rw [hw] at q5
  dsimp only at q5
  have q7 := ref10SameLeases xs xs (by omega) (by omega)
  have hdt : decide (xs = xs) = true := by simp
  rw [hdt] at q7
  have hxl : xs.length ≤ 10 := by omega
  clear hrun hw hdue hwf hag
  cases xs with
  | nil =>
    simp (config := sc) (disch := first | omega | (simp (config := sc) <;> omega) | (simp (config := sc) [*] <;> omega) | fail) [std]
    refine o_call rfl rfl q1 rfl rfl ?_
    simp (config := sc) (disch := first | omega | (simp (config := sc) <;> omega) | (simp (config := sc) [*] <;> omega) | fail) [std]
    refine o_call rfl rfl q2 rfl rfl ?_
    simp (config := sc) (disch := first | omega | (simp (config := sc) <;> omega) | (simp (config := sc) [*] <;> omega) | fail) [std]
    refine o_call rfl rfl q3 rfl rfl ?_
    simp (config := sc) (disch := first | omega | (simp (config := sc) <;> omega) | (simp (config := sc) [*] <;> omega) | fail) [std]
    refine o_call rfl rfl q4 rfl rfl ?_
    simp (config := sc) (disch := first | omega | (simp (config := sc) <;> omega) | (simp (config := sc) [*] <;> omega) | fail) [std]
    refine o_call rfl rfl q5 rfl rfl ?_
    simp (config := sc) (disch := first | omega | (simp (config := sc) <;> omega) | (simp (config := sc) [*] <;> omega) | fail) [std]
    refine o_call rfl rfl q2' rfl rfl ?_
    simp (config := sc) (disch := first | omega | (simp (config := sc) <;> omega) | (simp (config := sc) [*] <;> omega) | fail) [std]
    refine o_call rfl rfl q7 rfl rfl ?_
    simp (config := sc) (disch := first | omega | (simp (config := sc) <;> omega) | (simp (config := sc) [*] <;> omega) | fail) [std]
    refine o_call rfl rfl q6 rfl rfl ?_
    simp (config := sc) (disch := first | omega | (simp (config := sc) <;> omega) | (simp (config := sc) [*] <;> omega) | fail) [std]
    refine o_call rfl rfl knows11 rfl rfl ?_
    simp (config := sc) (disch := first | omega | (simp (config := sc) <;> omega) | (simp (config := sc) [*] <;> omega) | fail) [std]
  | cons y ys =>
    have hy := hlr y (by simp)
    have hyk := key_len (right_rng hy).2.2.2
    have q8 := ref09Right y (by omega)
    rw [hy] at q8
    have hlen : ((y :: ys).length : Int) = ys.length + 1 := by simp
    have hn0 : ¬ (ys.length : Int) + 1 = 0 := by omega
    have hp0 : (0 : Int) < (ys.length : Int) + 1 := by omega
    have hnt : nth (y :: ys) 0 = y := rfl
    have hml : (((y :: ys).map LeaseR.d).length : Int) = ys.length + 1 := by simp
    simp only [List.map_cons] at q2 q2' q3 q5 q7
    simp (config := sc) (disch := first | omega | (simp (config := sc) <;> omega) | (simp (config := sc) [*] <;> omega) | fail) [std]
    refine o_call rfl rfl q1 rfl rfl ?_
    simp (config := sc) (disch := first | omega | (simp (config := sc) <;> omega) | (simp (config := sc) [*] <;> omega) | fail) [std]
    refine o_call rfl rfl q2 rfl rfl ?_
    simp (config := sc) (disch := first | omega | (simp (config := sc) <;> omega) | (simp (config := sc) [*] <;> omega) | fail) [std]
    refine o_call rfl rfl q3 rfl rfl ?_
    simp (config := sc) (disch := first | omega | (simp (config := sc) <;> omega) | (simp (config := sc) [*] <;> omega) | fail) [std]
    refine o_call rfl rfl q4 rfl rfl ?_
    simp (config := sc) (disch := first | omega | (simp (config := sc) <;> omega) | (simp (config := sc) [*] <;> omega) | fail) [std]
    refine o_call rfl rfl q5 rfl rfl ?_
    simp (config := sc) (disch := first | omega | (simp (config := sc) <;> omega) | (simp (config := sc) [*] <;> omega) | fail) [std]
    refine o_call rfl rfl q2' rfl rfl ?_
    simp (config := sc) (disch := first | omega | (simp (config := sc) <;> omega) | (simp (config := sc) [*] <;> omega) | fail) [std]
    refine o_call rfl rfl q7 rfl rfl ?_
    simp (config := sc) (disch := first | omega | (simp (config := sc) <;> omega) | (simp (config := sc) [*] <;> omega) | fail) [std]
    refine o_call rfl rfl q6 rfl rfl ?_
    simp (config := sc) (disch := first | omega | (simp (config := sc) <;> omega) | (simp (config := sc) [*] <;> omega) | fail) [std, hn0, hp0]
    refine o_call rfl rfl q8 rfl rfl ?_
    simp (config := sc) (disch := first | omega | (simp (config := sc) <;> omega) | (simp (config := sc) [*] <;> omega) | fail) [std, hn0, hp0]
    refine o_call rfl rfl knows11 rfl rfl ?_
    simp (config := sc) (disch := first | omega | (simp (config := sc) <;> omega) | (simp (config := sc) [*] <;> omega) | fail) [std]

theorem lawCCuts (ahead ls : List LeaseR) (done : Int) (keep : List Int) (dir : Bool) (ha : LsOk ahead) (hl : LsOk ls) :
    Holds Try.prog 7 [.d (.slice (ahead.map LeaseR.d)), .d (.slice (ls.map LeaseR.d)), .d (.int .i64 done), .d (.slice (keep.map intD)), .d (.bool dir)] (.d (.bool true)) (fun _ => false) := by
  refine Holds.by (by kernel_rfl) Try.func7 (by kernel_rfl) rfl [3061011, 3016016, 3068016, 3018018] (by simp) (by kernel_rfl) (by kernel_rfl) rfl ?_
  conv in ccs _ => cbv
  have g1 := great11 ls hl
  cases h1 : smallLs ls with
  | false =>
    rw [h1] at g1
    simp (config := sc) (disch := first | omega | (simp (config := sc) <;> omega) | (simp (config := sc) [*] <;> omega) | fail) [std]
    refine o_call rfl rfl g1 rfl rfl ?_
    simp (config := sc) (disch := first | omega | (simp (config := sc) <;> omega) | (simp (config := sc) [*] <;> omega) | fail) [std]
    refine o_call rfl rfl knows11 rfl rfl ?_
    simp (config := sc) (disch := first | omega | (simp (config := sc) <;> omega) | (simp (config := sc) [*] <;> omega) | fail) [std]
  | true =>
  rw [h1] at g1
  obtain ⟨hl1, hl2⟩ := small11 h1
  by_cases c1 : (20 : Int) < ls.length
  · simp (config := sc) (disch := first | omega | (simp (config := sc) <;> omega) | (simp (config := sc) [*] <;> omega) | fail) [std]
    refine o_call rfl rfl g1 rfl rfl ?_
    simp (config := sc) (disch := first | omega | (simp (config := sc) <;> omega) | (simp (config := sc) [*] <;> omega) | fail) [std, c1]
    refine o_call rfl rfl knows11 rfl rfl ?_
    simp (config := sc) (disch := first | omega | (simp (config := sc) <;> omega) | (simp (config := sc) [*] <;> omega) | fail) [std]
  by_cases c2 : (100 : Int) < keep.length
  · simp (config := sc) (disch := first | omega | (simp (config := sc) <;> omega) | (simp (config := sc) [*] <;> omega) | fail) [std]
    refine o_call rfl rfl g1 rfl rfl ?_
    simp (config := sc) (disch := first | omega | (simp (config := sc) <;> omega) | (simp (config := sc) [*] <;> omega) | fail) [std, c1, c2]
    refine o_call rfl rfl knows11 rfl rfl ?_
    simp (config := sc) (disch := first | omega | (simp (config := sc) <;> omega) | (simp (config := sc) [*] <;> omega) | fail) [std]
  have q1 := law10Kept ahead ha.1 ha.2
  obtain ⟨hsd, hnm⟩ := kd_sd (ahead.take 10) (by simp; omega)
  have hkl := keptL_len (ahead.take 10)
  simp only [List.length_take] at hkl
  generalize kdL (ahead.take 10) = d at *
  generalize keptL (ahead.take 10) = kp at *
  have q2 := cleanChanges d (ok_right hsd.c.r) ls (by omega) (fun l hl => by have := hl2 l hl; omega)
  cases hall : ls.all rightL with
  | false =>
    have hz : changesC d ls = ([], 1) := by unfold changesC; rw [if_pos hall]
    rw [hz] at q2
    simp (config := sc) (disch := first | omega | (simp (config := sc) <;> omega) | (simp (config := sc) [*] <;> omega) | fail) [std]
    refine o_call rfl rfl g1 rfl rfl ?_
    simp (config := sc) (disch := first | omega | (simp (config := sc) <;> omega) | (simp (config := sc) [*] <;> omega) | fail) [std, c1, c2]
    refine o_call rfl rfl q1 rfl rfl ?_
    simp (config := sc) (disch := first | omega | (simp (config := sc) <;> omega) | (simp (config := sc) [*] <;> omega) | fail) [std, c1, c2]
    refine o_call rfl rfl q2 rfl rfl ?_
    simp (config := sc) (disch := first | omega | (simp (config := sc) <;> omega) | (simp (config := sc) [*] <;> omega) | fail) [std]
    refine o_call rfl rfl knows11 rfl rfl ?_
    simp (config := sc) (disch := first | omega | (simp (config := sc) <;> omega) | (simp (config := sc) [*] <;> omega) | fail) [std]
  | true =>
  have hlr := List.all_eq_true.1 hall
  have hB := bytes_few hlr
  have hB2 : (bytesL ls).length ≤ 20000 := by omega
  have he : (changesC d ls).2 = 0 := by rw [clean_eq hlr hB2]
  have hrun := clean_run hsd hnm hlr hB2 done.toNat
  obtain ⟨f1, f2⟩ := changes_few d ls
  have q3 := journalDo d (ok_right hsd.c.r) (changesC d ls).1 (by omega) f2 done
  rw [good_id hsd.c.r] at q3
  rw [he] at q2
  generalize (changesC d ls).1 = cs at *
  generalize doS cs done.toNat d = r at *
  obtain ⟨x, n⟩ := r
  have q4 := diskCrash x (ok_right hrun.c.r) keep (by omega) dir
  have hrc := rec_crash hrun.c keep dir
  have halls := hrun.all
  have hle : n ≤ cs.length := by have := hrun.num; simp only at this; omega
  dsimp only at q3 hrc halls
  have hcs : n = cs.length → (readJ (getS (crashS x keep dir) nJ).1).1 = ls := fun e => (rec_get (sd_crash (halls e) keep dir).c).1
  generalize crashS x keep dir = c at *
  have q5 := journalOpen c (ok_right hrc.r)
  obtain ⟨zs, z1, z2, z3, _, z4⟩ := rec_open hrc
  rw [z2] at q5
  generalize (openJ c).1 = y at *
  obtain ⟨w, hw⟩ := z3.read
  have q6 := journalRead y (ok_right z3.c.r) (by have := get_len y [106]; omega)
  rw [hw] at q6
  dsimp only at q6
  have hzl : zs.length ≤ 20 := by
    rcases z1 with rfl | rfl
    · omega
    · omega
  have q7 := ref10SameLeases zs kp (by omega) (by omega)
  have q8 := ref10SameLeases zs ls (by omega) (by omega)
  by_cases hn : n = cs.length
  · have hz : zs = ls := by rw [z4, hcs hn]
    have hn' : (cs.length : Int) ≤ n := by omega
    have hdt : decide (zs = ls) = true := by simp [hz]
    rw [hdt] at q8
    simp (config := sc) (disch := first | omega | (simp (config := sc) <;> omega) | (simp (config := sc) [*] <;> omega) | fail) [std]
    refine o_call rfl rfl g1 rfl rfl ?_
    simp (config := sc) (disch := first | omega | (simp (config := sc) <;> omega) | (simp (config := sc) [*] <;> omega) | fail) [std, c1, c2]
    refine o_call rfl rfl q1 rfl rfl ?_
    simp (config := sc) (disch := first | omega | (simp (config := sc) <;> omega) | (simp (config := sc) [*] <;> omega) | fail) [std, c1, c2]
    refine o_call rfl rfl q2 rfl rfl ?_
    simp (config := sc) (disch := first | omega | (simp (config := sc) <;> omega) | (simp (config := sc) [*] <;> omega) | fail) [std]
    refine o_call rfl rfl q3 rfl rfl ?_
    simp (config := sc) (disch := first | omega | (simp (config := sc) <;> omega) | (simp (config := sc) [*] <;> omega) | fail) [std]
    refine o_call rfl rfl q4 rfl rfl ?_
    simp (config := sc) (disch := first | omega | (simp (config := sc) <;> omega) | (simp (config := sc) [*] <;> omega) | fail) [std]
    refine o_call rfl rfl q5 rfl rfl ?_
    simp (config := sc) (disch := first | omega | (simp (config := sc) <;> omega) | (simp (config := sc) [*] <;> omega) | fail) [std]
    refine o_call rfl rfl q6 rfl rfl ?_
    simp (config := sc) (disch := first | omega | (simp (config := sc) <;> omega) | (simp (config := sc) [*] <;> omega) | fail) [std, hn']
    refine o_call rfl rfl q8 rfl rfl ?_
    simp (config := sc) (disch := first | omega | (simp (config := sc) <;> omega) | (simp (config := sc) [*] <;> omega) | fail) [std]
    refine o_call rfl rfl knows11 rfl rfl ?_
    simp (config := sc) (disch := first | omega | (simp (config := sc) <;> omega) | (simp (config := sc) [*] <;> omega) | fail) [std]
  · have hn' : ¬ (cs.length : Int) ≤ n := by omega
    by_cases hz : zs = kp
    · have hdt : decide (zs = kp) = true := by simp [hz]
      rw [hdt] at q7
      simp (config := sc) (disch := first | omega | (simp (config := sc) <;> omega) | (simp (config := sc) [*] <;> omega) | fail) [std]
      refine o_call rfl rfl g1 rfl rfl ?_
      simp (config := sc) (disch := first | omega | (simp (config := sc) <;> omega) | (simp (config := sc) [*] <;> omega) | fail) [std, c1, c2]
      refine o_call rfl rfl q1 rfl rfl ?_
      simp (config := sc) (disch := first | omega | (simp (config := sc) <;> omega) | (simp (config := sc) [*] <;> omega) | fail) [std, c1, c2]
      refine o_call rfl rfl q2 rfl rfl ?_
      simp (config := sc) (disch := first | omega | (simp (config := sc) <;> omega) | (simp (config := sc) [*] <;> omega) | fail) [std]
      refine o_call rfl rfl q3 rfl rfl ?_
      simp (config := sc) (disch := first | omega | (simp (config := sc) <;> omega) | (simp (config := sc) [*] <;> omega) | fail) [std]
      refine o_call rfl rfl q4 rfl rfl ?_
      simp (config := sc) (disch := first | omega | (simp (config := sc) <;> omega) | (simp (config := sc) [*] <;> omega) | fail) [std]
      refine o_call rfl rfl q5 rfl rfl ?_
      simp (config := sc) (disch := first | omega | (simp (config := sc) <;> omega) | (simp (config := sc) [*] <;> omega) | fail) [std]
      refine o_call rfl rfl q6 rfl rfl ?_
      simp (config := sc) (disch := first | omega | (simp (config := sc) <;> omega) | (simp (config := sc) [*] <;> omega) | fail) [std, hn']
      refine o_call rfl rfl q7 rfl rfl ?_
      simp (config := sc) (disch := first | omega | (simp (config := sc) <;> omega) | (simp (config := sc) [*] <;> omega) | fail) [std]
      refine o_call rfl rfl knows11 rfl rfl ?_
      simp (config := sc) (disch := first | omega | (simp (config := sc) <;> omega) | (simp (config := sc) [*] <;> omega) | fail) [std]
    · have hz2 : zs = ls := by
        rcases z1 with h | h
        · exact absurd h hz
        · exact h
      have hdt : decide (zs = kp) = false := by simp [hz]
      have hdt2 : decide (zs = ls) = true := by simp [hz2]
      rw [hdt] at q7
      rw [hdt2] at q8
      simp (config := sc) (disch := first | omega | (simp (config := sc) <;> omega) | (simp (config := sc) [*] <;> omega) | fail) [std]
      refine o_call rfl rfl g1 rfl rfl ?_
      simp (config := sc) (disch := first | omega | (simp (config := sc) <;> omega) | (simp (config := sc) [*] <;> omega) | fail) [std, c1, c2]
      refine o_call rfl rfl q1 rfl rfl ?_
      simp (config := sc) (disch := first | omega | (simp (config := sc) <;> omega) | (simp (config := sc) [*] <;> omega) | fail) [std, c1, c2]
      refine o_call rfl rfl q2 rfl rfl ?_
      simp (config := sc) (disch := first | omega | (simp (config := sc) <;> omega) | (simp (config := sc) [*] <;> omega) | fail) [std]
      refine o_call rfl rfl q3 rfl rfl ?_
      simp (config := sc) (disch := first | omega | (simp (config := sc) <;> omega) | (simp (config := sc) [*] <;> omega) | fail) [std]
      refine o_call rfl rfl q4 rfl rfl ?_
      simp (config := sc) (disch := first | omega | (simp (config := sc) <;> omega) | (simp (config := sc) [*] <;> omega) | fail) [std]
      refine o_call rfl rfl q5 rfl rfl ?_
      simp (config := sc) (disch := first | omega | (simp (config := sc) <;> omega) | (simp (config := sc) [*] <;> omega) | fail) [std]
      refine o_call rfl rfl q6 rfl rfl ?_
      simp (config := sc) (disch := first | omega | (simp (config := sc) <;> omega) | (simp (config := sc) [*] <;> omega) | fail) [std, hn']
      refine o_call rfl rfl q7 rfl rfl ?_
      simp (config := sc) (disch := first | omega | (simp (config := sc) <;> omega) | (simp (config := sc) [*] <;> omega) | fail) [std]
      refine o_call rfl rfl q8 rfl rfl ?_
      simp (config := sc) (disch := first | omega | (simp (config := sc) <;> omega) | (simp (config := sc) [*] <;> omega) | fail) [std]
      refine o_call rfl rfl knows11 rfl rfl ?_
      simp (config := sc) (disch := first | omega | (simp (config := sc) <;> omega) | (simp (config := sc) [*] <;> omega) | fail) [std]

end Go.Proofs.Ytkbidfohcanijaa
