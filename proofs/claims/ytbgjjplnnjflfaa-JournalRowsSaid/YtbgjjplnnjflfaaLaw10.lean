/- The laws of chapter 10, walked. -/
import Derived.Test.YtbgjjplnnjflfaaKept
namespace Go.Proofs.Ytbgjjplnnjflfaa
open BoEng Go
set_option maxRecDepth 100000
attribute [-simp] List.map_take List.map_drop List.length_flatMap
set_option linter.unusedSimpArgs false
set_option linter.unusedVariables false

/-- What was read has few leases. -/
theorem read_few (k : Dk) : (readJ (getS k [106]).1).1.length ≤ 20000 := by
  generalize hr : readJ (getS k [106]).1 = r
  obtain ⟨xs, n, e⟩ := r
  have he := read_err (getS k [106]).1
  rw [hr] at he
  dsimp only at he ⊢
  have hl := get_len k [106]
  rcases he with rfl | rfl | rfl
  · have h1 := read_whole hr
    have := (read_right hr (.inl rfl)).2.2
    omega
  · obtain ⟨q, rfl, h1, h2⟩ := read_cut hr
    have := (read_right h2 (.inl rfl)).2.2
    omega
  · have : xs = [] := by
      have h : ∀ (m a : Nat) (out : List LeaseR), (getS k [106]).1.length - a ≤ m → a ≤ (getS k [106]).1.length → (jrd (getS k [106]).1 a out).2.2 = 2 → (jrd (getS k [106]).1 a out).1 = [] := by
        intro m
        induction m with
        | zero =>
          intro a out hm ha h
          rcases jrd_cases ha out with ⟨_, e⟩ | ⟨h1, _, e⟩ | e | ⟨h1, _⟩
          · rw [e] at h; simp at h
          · rw [e] at h; simp at h
          · rw [e]
          · omega
        | succ m ih =>
          intro a out hm ha h
          rcases jrd_cases ha out with ⟨_, e⟩ | ⟨h1, _, e⟩ | e | ⟨h1, _, _, p1, p2, e⟩
          · rw [e] at h; simp at h
          · rw [e] at h; simp at h
          · rw [e]
          · rw [e] at h ⊢
            exact ih _ _ (by omega) p2 h
      have := h (getS k [106]).1.length 0 [] (by omega) (by omega) (by show (readJ _).2.2 = 2; rw [hr])
      have e : (readJ (getS k [106]).1).1 = [] := this
      rw [hr] at e
      exact e
    subst this
    simp

theorem lawReads (k : Dk) (hk : DkOk k) : Holds Try.prog 3 [.d k.d] (.d (.bool true)) (fun _ => false) := by
  refine Holds.by (by kernel_rfl) Try.func3 (by kernel_rfl) rfl [20001] (by simp) (by kernel_rfl) (by kernel_rfl) rfl ?_
  conv in ccs _ => cbv
  have g1 := great08 k hk
  cases h1 : smallK k with
  | false =>
    rw [h1] at g1
    simp (config := sc) (disch := first | omega | (simp (config := sc) <;> omega) | (simp (config := sc) [*] <;> omega) | fail) [std, Dk.d]
    refine o_call rfl rfl g1 rfl rfl ?_
    simp (config := sc) (disch := first | omega | (simp (config := sc) <;> omega) | (simp (config := sc) [*] <;> omega) | fail) [std]
    refine o_call rfl rfl knows10 rfl rfl ?_
    simp (config := sc) (disch := first | omega | (simp (config := sc) <;> omega) | (simp (config := sc) [*] <;> omega) | fail) [std]
  | true =>
  rw [h1] at g1
  have ok := small_ok h1 hk
  have hl := get_len k [106]
  have q1 := journalRead k ok (by omega)
  have q2 := ref10Read k ok (by omega)
  have q3 := lawAs k ok.1
  have hf := read_few k
  have q4 := ref10SameLeases (readJ (getS k [106]).1).1 (readJ (getS k [106]).1).1 (by omega) (by omega)
  generalize readJ (getS k [106]).1 = r at *
  have hdt : decide (r.1 = r.1) = true := by simp
  rw [hdt] at q4
  simp (config := sc) (disch := first | omega | (simp (config := sc) <;> omega) | (simp (config := sc) [*] <;> omega) | fail) [std, Dk.d]
  refine o_call rfl rfl g1 rfl rfl ?_
  simp (config := sc) (disch := first | omega | (simp (config := sc) <;> omega) | (simp (config := sc) [*] <;> omega) | fail) [std]
  refine o_call rfl rfl q1 rfl rfl ?_
  simp (config := sc) (disch := first | omega | (simp (config := sc) <;> omega) | (simp (config := sc) [*] <;> omega) | fail) [std]
  refine o_call rfl rfl q3 rfl rfl ?_
  simp (config := sc) (disch := first | omega | (simp (config := sc) <;> omega) | (simp (config := sc) [*] <;> omega) | fail) [std, Dk.d]
  refine o_call rfl rfl q2 rfl rfl ?_
  simp (config := sc) (disch := first | omega | (simp (config := sc) <;> omega) | (simp (config := sc) [*] <;> omega) | fail) [std]
  refine o_call rfl rfl q4 rfl rfl ?_
  simp (config := sc) (disch := first | omega | (simp (config := sc) <;> omega) | (simp (config := sc) [*] <;> omega) | fail) [std]
  refine o_call rfl rfl knows10 rfl rfl ?_
  simp (config := sc) (disch := first | omega | (simp (config := sc) <;> omega) | (simp (config := sc) [*] <;> omega) | fail) [std]

theorem lawOpens (k : Dk) (hk : DkOk k) : Holds Try.prog 5 [.d k.d] (.d (.bool true)) (fun _ => false) := by
  refine Holds.by (by kernel_rfl) Try.func5 (by kernel_rfl) rfl [20001, 50013, 50018, 3037003, 3007007] (by simp) (by kernel_rfl) (by kernel_rfl) rfl ?_
  conv in ccs _ => cbv
  have g1 := great08 k hk
  cases h1 : smallK k with
  | false =>
    rw [h1] at g1
    simp (config := sc) (disch := first | omega | (simp (config := sc) <;> omega) | (simp (config := sc) [*] <;> omega) | fail) [std, Dk.d]
    refine o_call rfl rfl g1 rfl rfl ?_
    simp (config := sc) (disch := first | omega | (simp (config := sc) <;> omega) | (simp (config := sc) [*] <;> omega) | fail) [std]
    refine o_call rfl rfl knows10 rfl rfl ?_
    simp (config := sc) (disch := first | omega | (simp (config := sc) <;> omega) | (simp (config := sc) [*] <;> omega) | fail) [std]
  | true =>
  rw [h1] at g1
  have ok := small_ok h1 hk
  have q1 := journalOpen k ok
  have q2 := ref10Open k ok
  have q3 := lawAs k ok.1
  have hor := open_right k
  have ha := open_again k
  generalize openJ k = r at *
  have okr := ok_right hor
  have q4 := lawAs r.1 okr.1
  have q5 := ref08Same r.1 okr
  by_cases h0 : r.2 = 0
  · have ha := ha h0
    have q6 := journalOpen r.1 okr
    rw [ha] at q6
    simp (config := sc) (disch := first | omega | (simp (config := sc) <;> omega) | (simp (config := sc) [*] <;> omega) | fail) [std, Dk.d]
    refine o_call rfl rfl g1 rfl rfl ?_
    simp (config := sc) (disch := first | omega | (simp (config := sc) <;> omega) | (simp (config := sc) [*] <;> omega) | fail) [std]
    refine o_call rfl rfl q1 rfl rfl ?_
    simp (config := sc) (disch := first | omega | (simp (config := sc) <;> omega) | (simp (config := sc) [*] <;> omega) | fail) [std]
    refine o_call rfl rfl q3 rfl rfl ?_
    simp (config := sc) (disch := first | omega | (simp (config := sc) <;> omega) | (simp (config := sc) [*] <;> omega) | fail) [std, Dk.d]
    refine o_call rfl rfl q2 rfl rfl ?_
    simp (config := sc) (disch := first | omega | (simp (config := sc) <;> omega) | (simp (config := sc) [*] <;> omega) | fail) [std]
    refine o_call rfl rfl q4 rfl rfl ?_
    simp (config := sc) (disch := first | omega | (simp (config := sc) <;> omega) | (simp (config := sc) [*] <;> omega) | fail) [std, Dk.d]
    refine o_call rfl rfl q5 rfl rfl ?_
    simp (config := sc) (disch := first | omega | (simp (config := sc) <;> omega) | (simp (config := sc) [*] <;> omega) | fail) [std, h0]
    refine o_call rfl rfl q6 rfl rfl ?_
    simp (config := sc) (disch := first | omega | (simp (config := sc) <;> omega) | (simp (config := sc) [*] <;> omega) | fail) [std, h0]
    refine o_call rfl rfl q4 rfl rfl ?_
    simp (config := sc) (disch := first | omega | (simp (config := sc) <;> omega) | (simp (config := sc) [*] <;> omega) | fail) [std, h0, Dk.d]
    refine o_call rfl rfl q5 rfl rfl ?_
    simp (config := sc) (disch := first | omega | (simp (config := sc) <;> omega) | (simp (config := sc) [*] <;> omega) | fail) [std, h0]
    refine o_call rfl rfl knows10 rfl rfl ?_
    simp (config := sc) (disch := first | omega | (simp (config := sc) <;> omega) | (simp (config := sc) [*] <;> omega) | fail) [std]
  · simp (config := sc) (disch := first | omega | (simp (config := sc) <;> omega) | (simp (config := sc) [*] <;> omega) | fail) [std, Dk.d]
    refine o_call rfl rfl g1 rfl rfl ?_
    simp (config := sc) (disch := first | omega | (simp (config := sc) <;> omega) | (simp (config := sc) [*] <;> omega) | fail) [std]
    refine o_call rfl rfl q1 rfl rfl ?_
    simp (config := sc) (disch := first | omega | (simp (config := sc) <;> omega) | (simp (config := sc) [*] <;> omega) | fail) [std]
    refine o_call rfl rfl q3 rfl rfl ?_
    simp (config := sc) (disch := first | omega | (simp (config := sc) <;> omega) | (simp (config := sc) [*] <;> omega) | fail) [std, Dk.d]
    refine o_call rfl rfl q2 rfl rfl ?_
    simp (config := sc) (disch := first | omega | (simp (config := sc) <;> omega) | (simp (config := sc) [*] <;> omega) | fail) [std]
    refine o_call rfl rfl q4 rfl rfl ?_
    simp (config := sc) (disch := first | omega | (simp (config := sc) <;> omega) | (simp (config := sc) [*] <;> omega) | fail) [std, Dk.d]
    refine o_call rfl rfl q5 rfl rfl ?_
    simp (config := sc) (disch := first | omega | (simp (config := sc) <;> omega) | (simp (config := sc) [*] <;> omega) | fail) [std, h0]
    refine o_call rfl rfl knows10 rfl rfl ?_
    simp (config := sc) (disch := first | omega | (simp (config := sc) <;> omega) | (simp (config := sc) [*] <;> omega) | fail) [std]

theorem lawRows (ls : List LeaseR) (keep : List Int) (dir : Bool) (hls : ls.length ≤ 9223372036854775807) (hk : ∀ l ∈ ls, l.key.length ≤ 9223372036854775807) :
    Holds Try.prog 4 [.d (.slice (ls.map LeaseR.d)), .d (.slice (keep.map intD)), .d (.bool dir)] (.d (.bool true)) (fun _ => false) := by
  refine Holds.by (by kernel_rfl) Try.func4 (by kernel_rfl) rfl [] (by simp) (by kernel_rfl) (by kernel_rfl) rfl ?_
  conv in ccs _ => cbv
  by_cases c1 : (100 : Int) < keep.length
  · simp (config := sc) (disch := first | omega | (simp (config := sc) <;> omega) | (simp (config := sc) [*] <;> omega) | fail) [std, c1]
    refine o_call rfl rfl knows10 rfl rfl ?_
    simp (config := sc) (disch := first | omega | (simp (config := sc) <;> omega) | (simp (config := sc) [*] <;> omega) | fail) [std]
  have q1 := law10Kept ls hls hk
  obtain ⟨hsd, hnm⟩ := kd_sd (ls.take 10) (by simp; omega)
  have hkl := keptL_len (ls.take 10)
  simp only [List.length_take] at hkl
  generalize kdL (ls.take 10) = d at *
  generalize keptL (ls.take 10) = kp at *
  obtain ⟨n, hn⟩ := hsd.read
  have q2 := journalRead d (ok_right hsd.c.r) (by have := get_len d [106]; omega)
  rw [hn] at q2
  have hrc := sd_crash hsd keep dir
  have q3 := diskCrash d (ok_right hsd.c.r) keep (by omega) dir
  obtain ⟨m, hm⟩ := hrc.read
  have q4 := journalRead (crashS d keep dir) (ok_right hrc.r) (by have := get_len (crashS d keep dir) [106]; omega)
  rw [hm] at q4
  generalize crashS d keep dir = c at *
  have q5 := ref10SameLeases kp kp (by omega) (by omega)
  have hdt : decide (kp = kp) = true := by simp
  rw [hdt] at q5
  dsimp only at q2 q4
  simp (config := sc) (disch := first | omega | (simp (config := sc) <;> omega) | (simp (config := sc) [*] <;> omega) | fail) [std, c1]
  refine o_call rfl rfl q1 rfl rfl ?_
  simp (config := sc) (disch := first | omega | (simp (config := sc) <;> omega) | (simp (config := sc) [*] <;> omega) | fail) [std]
  refine o_call rfl rfl q2 rfl rfl ?_
  simp (config := sc) (disch := first | omega | (simp (config := sc) <;> omega) | (simp (config := sc) [*] <;> omega) | fail) [std]
  refine o_call rfl rfl q3 rfl rfl ?_
  simp (config := sc) (disch := first | omega | (simp (config := sc) <;> omega) | (simp (config := sc) [*] <;> omega) | fail) [std]
  refine o_call rfl rfl q4 rfl rfl ?_
  simp (config := sc) (disch := first | omega | (simp (config := sc) <;> omega) | (simp (config := sc) [*] <;> omega) | fail) [std]
  refine o_call rfl rfl q5 rfl rfl ?_
  simp (config := sc) (disch := first | omega | (simp (config := sc) <;> omega) | (simp (config := sc) [*] <;> omega) | fail) [std]
  refine o_call rfl rfl q5 rfl rfl ?_
  simp (config := sc) (disch := first | omega | (simp (config := sc) <;> omega) | (simp (config := sc) [*] <;> omega) | fail) [std]
  refine o_call rfl rfl knows10 rfl rfl ?_
  simp (config := sc) (disch := first | omega | (simp (config := sc) <;> omega) | (simp (config := sc) [*] <;> omega) | fail) [std]

theorem lawCuts10 (ls : List LeaseR) (more : LeaseR) (done : Int) (keep : List Int) (dir : Bool) (hls : ls.length ≤ 9223372036854775807) (hk : ∀ l ∈ ls, l.key.length ≤ 9223372036854775807) (hm : more.key.length ≤ 9223372036854775807) :
    Holds Try.prog 6 [.d (.slice (ls.map LeaseR.d)), .d more.d, .d (.int .i64 done), .d (.slice (keep.map intD)), .d (.bool dir)] (.d (.bool true)) (fun _ => false) := by
  refine Holds.by (by kernel_rfl) Try.func6 (by kernel_rfl) rfl [20006, 3051011, 3016016, 3058016, 3018018, 50091] (by simp) (by kernel_rfl) (by kernel_rfl) rfl ?_
  conv in ccs _ => cbv
  by_cases c1 : (100 : Int) < keep.length
  · simp (config := sc) (disch := first | omega | (simp (config := sc) <;> omega) | (simp (config := sc) [*] <;> omega) | fail) [std, c1]
    refine o_call rfl rfl knows10 rfl rfl ?_
    simp (config := sc) (disch := first | omega | (simp (config := sc) <;> omega) | (simp (config := sc) [*] <;> omega) | fail) [std]
  have q0 := ref09Right more hm
  cases hr : rightL more with
  | false =>
    rw [hr] at q0
    simp (config := sc) (disch := first | omega | (simp (config := sc) <;> omega) | (simp (config := sc) [*] <;> omega) | fail) [std, c1]
    refine o_call rfl rfl q0 rfl rfl ?_
    simp (config := sc) (disch := first | omega | (simp (config := sc) <;> omega) | (simp (config := sc) [*] <;> omega) | fail) [std]
    refine o_call rfl rfl knows10 rfl rfl ?_
    simp (config := sc) (disch := first | omega | (simp (config := sc) <;> omega) | (simp (config := sc) [*] <;> omega) | fail) [std]
  | true =>
  rw [hr] at q0
  have q1 := law10Kept ls hls hk
  obtain ⟨hsd, hnm⟩ := kd_sd (ls.take 10) (by simp; omega)
  have hkl := keptL_len (ls.take 10)
  simp only [List.length_take] at hkl
  generalize kdL (ls.take 10) = d at *
  generalize keptL (ls.take 10) = kp at *
  have hkey := key_len (right_rng hr).2.2.2
  have q2 := journalAdd d (ok_right hsd.c.r) more (by omega)
  obtain ⟨a1, a2⟩ := add_some hsd hr
  obtain ⟨f1, f2⟩ := add_few d more
  have hrun := add_run hsd hr done.toNat
  have q3 := journalDo d (ok_right hsd.c.r) (addJ d more).1 (by omega) f2 done
  rw [good_id hsd.c.r] at q3
  rw [a1] at q2
  generalize (addJ d more).1 = cs at *
  generalize hx : doS cs done.toNat d = r at *
  obtain ⟨x, n⟩ := r
  have q4 := diskCrash x (ok_right hrun.c.r) keep (by omega) dir
  have hrc := rec_crash hrun.c keep dir
  have hall := hrun.all
  have hle := hrun.le.2
  dsimp only at q3 hrc hall hle
  generalize hcr : crashS x keep dir = c at *
  have q5 := journalOpen c (ok_right hrc.r)
  obtain ⟨zs, z1, z2, z3, _, z4⟩ := rec_open hrc
  rw [z2] at q5
  generalize (openJ c).1 = y at *
  obtain ⟨w, hw⟩ := z3.read
  have q6 := journalRead y (ok_right z3.c.r) (by have := get_len y [106]; omega)
  rw [hw] at q6
  dsimp only at q6
  have hzl : zs.length ≤ 11 := by
    rcases z1 with rfl | rfl
    · omega
    · simp; omega
  have q7 := ref10SameLeases zs kp (by omega) (by omega)
  by_cases he : zs = kp
  · have hn : (n : Int) < cs.length := by
      by_cases e : n = cs.length
      · exfalso
        have hs := rec_crash (hall e).c keep dir
        rw [hcr] at hs
        have := (rec_get hs).1
        rw [← z4, he] at this
        have := congrArg List.length this
        simp at this
      · omega
    have hdt : decide (zs = kp) = true := by simp [he]
    rw [hdt] at q7
    simp (config := sc) (disch := first | omega | (simp (config := sc) <;> omega) | (simp (config := sc) [*] <;> omega) | fail) [std, c1]
    refine o_call rfl rfl q0 rfl rfl ?_
    simp (config := sc) (disch := first | omega | (simp (config := sc) <;> omega) | (simp (config := sc) [*] <;> omega) | fail) [std]
    refine o_call rfl rfl q1 rfl rfl ?_
    simp (config := sc) (disch := first | omega | (simp (config := sc) <;> omega) | (simp (config := sc) [*] <;> omega) | fail) [std]
    refine o_call rfl rfl q2 rfl rfl ?_
    simp (config := sc) (disch := first | omega | (simp (config := sc) <;> omega) | (simp (config := sc) [*] <;> omega) | fail) [std]
    refine o_call rfl rfl q3 rfl rfl ?_
    simp (config := sc) (disch := first | omega | (simp (config := sc) <;> omega) | (simp (config := sc) [*] <;> omega) | fail) [std]
    refine o_call rfl rfl q4 rfl rfl ?_
    simp (config := sc) (disch := first | omega | (simp (config := sc) <;> omega) | (simp (config := sc) [*] <;> omega) | fail) [std]
    refine o_call rfl rfl q5 rfl rfl ?_
    simp (config := sc) (disch := first | omega | (simp (config := sc) <;> omega) | (simp (config := sc) [*] <;> omega) | fail) [std]
    refine o_call rfl rfl q6 rfl rfl ?_
    simp (config := sc) (disch := first | omega | (simp (config := sc) <;> omega) | (simp (config := sc) [*] <;> omega) | fail) [std]
    refine o_call rfl rfl q7 rfl rfl ?_
    simp (config := sc) (disch := first | omega | (simp (config := sc) <;> omega) | (simp (config := sc) [*] <;> omega) | fail) [std, hn]
    refine o_call rfl rfl knows10 rfl rfl ?_
    simp (config := sc) (disch := first | omega | (simp (config := sc) <;> omega) | (simp (config := sc) [*] <;> omega) | fail) [std]
  · have hz : zs = kp ++ [more] := by
      rcases z1 with h | h
      · exact absurd h he
      · exact h
    have hdt : decide (zs = kp) = false := by simp [he]
    rw [hdt] at q7
    have q8 := ref10SameLeases zs (kp ++ [more]) (by omega) (by simp; omega)
    have hdt2 : decide (zs = kp ++ [more]) = true := by simp [hz]
    rw [hdt2, List.map_append] at q8
    have hkl2 : kp.length ≤ 10 := by omega
    simp (config := sc) (disch := first | omega | (simp (config := sc) <;> omega) | (simp (config := sc) [*] <;> omega) | fail) [std, c1]
    refine o_call rfl rfl q0 rfl rfl ?_
    simp (config := sc) (disch := first | omega | (simp (config := sc) <;> omega) | (simp (config := sc) [*] <;> omega) | fail) [std]
    refine o_call rfl rfl q1 rfl rfl ?_
    simp (config := sc) (disch := first | omega | (simp (config := sc) <;> omega) | (simp (config := sc) [*] <;> omega) | fail) [std]
    refine o_call rfl rfl q2 rfl rfl ?_
    simp (config := sc) (disch := first | omega | (simp (config := sc) <;> omega) | (simp (config := sc) [*] <;> omega) | fail) [std]
    refine o_call rfl rfl q3 rfl rfl ?_
    simp (config := sc) (disch := first | omega | (simp (config := sc) <;> omega) | (simp (config := sc) [*] <;> omega) | fail) [std]
    refine o_call rfl rfl q4 rfl rfl ?_
    simp (config := sc) (disch := first | omega | (simp (config := sc) <;> omega) | (simp (config := sc) [*] <;> omega) | fail) [std]
    refine o_call rfl rfl q5 rfl rfl ?_
    simp (config := sc) (disch := first | omega | (simp (config := sc) <;> omega) | (simp (config := sc) [*] <;> omega) | fail) [std]
    refine o_call rfl rfl q6 rfl rfl ?_
    simp (config := sc) (disch := first | omega | (simp (config := sc) <;> omega) | (simp (config := sc) [*] <;> omega) | fail) [std]
    refine o_call rfl rfl q7 rfl rfl ?_
    simp (config := sc) (disch := first | omega | (simp (config := sc) <;> omega) | (simp (config := sc) [*] <;> omega) | fail) [std]
    refine o_call rfl rfl q8 rfl rfl ?_
    simp (config := sc) (disch := first | omega | (simp (config := sc) <;> omega) | (simp (config := sc) [*] <;> omega) | fail) [std]
    refine o_call rfl rfl knows10 rfl rfl ?_
    simp (config := sc) (disch := first | omega | (simp (config := sc) <;> omega) | (simp (config := sc) [*] <;> omega) | fail) [std]

end Go.Proofs.Ytbgjjplnnjflfaa
