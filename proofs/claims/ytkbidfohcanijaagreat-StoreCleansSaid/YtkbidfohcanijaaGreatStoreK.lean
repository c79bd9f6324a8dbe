/- A store, that the row reads is a store; the law about making the journal short. -/
import Derived.Test.YtkbidfohcanijaaGreatGreat20
import Derived.Test.YtkbidfohcanijaaGreatLaw20
import Derived.Test.YtkbidfohcanijaaGreatDiskK
import Derived.Test.YtkbidfohcanijaaGreatLeaseK
namespace Go.Proofs.YtkbidfohcanijaaGreat
open BoEng Go
set_option maxRecDepth 100000
attribute [-simp] List.map_take List.map_drop List.length_flatMap
set_option linter.unusedSimpArgs false
set_option linter.unusedVariables false

theorem dkC_of {n : Nat} {ds : List DV} (h : typC Tryz.prog n 26 ds) : ∃ k : Dk, ds = [.slice (k.files.map FileD.d), .slice (k.now.map Ent.d), .slice (k.kept.map Ent.d)] ∧ DkOk k := by
  cases n with
  | zero => exact h.elim
  | succ n =>
    unfold typC at h
    rw [Tryz.underlying26] at h
    obtain ⟨_, _, rfl, h1, _, _, rfl, h2, _, _, rfl, h3, rfl⟩ := h
    obtain ⟨a, rfl, k1, _⟩ := typC_slice und23 (fun n ds h => fileD_of h) h1
    obtain ⟨b, rfl, k2, k4⟩ := typC_slice und24 (fun n ds h => ent_of h) h2
    obtain ⟨c, rfl, k3, k5⟩ := typC_slice und24 (fun n ds h => ent_of h) h3
    exact ⟨⟨a, b, c⟩, by simp, Nat.le_trans k1 maxLen_le, Nat.le_trans k2 maxLen_le, Nat.le_trans k3 maxLen_le, fun e he => Nat.le_trans (k4 e he) maxLen_le, fun e he => Nat.le_trans (k5 e he) maxLen_le⟩
theorem store_of {n : Nat} {x : DV} (h : typD Tryz.prog n 28 x) : ∃ s : StR, x = s.d ∧ LsOk s.t ∧ DkOk s.k := by
  obtain ⟨ds, h, rfl⟩ := h
  cases n with
  | zero => exact h.elim
  | succ n =>
    unfold typC at h
    rw [Tryz.underlying28] at h
    obtain ⟨_, _, rfl, h1, _, _, rfl, h2, rfl⟩ := h
    obtain ⟨a, rfl, k1, k2⟩ := typC_slice und22 (fun n ds h => leaseC_of h) h1
    obtain ⟨k, rfl, k3⟩ := dkC_of h2
    exact ⟨⟨a, k⟩, by simp [mkD, Tryz.underlying28, StR.d], ⟨Nat.le_trans k1 maxLen_le, fun l hl => Nat.le_trans (k2 l hl) maxLen_le⟩, k3⟩

theorem clean_keeps (s : StR) (hk : okK s.k) (many fuel : Int) : okK (cleanT s many fuel).1.k ∧ (cleanT s many fuel).1.t = s.t := by
  unfold cleanT
  split
  · exact ⟨hk, rfl⟩
  split
  · exact ⟨hk, rfl⟩
  unfold planS
  generalize (if fuel < 0 then (changesC s.k s.t).1.length else fuel.toNat) = fu
  have hr := ok_right (do_right (changesC s.k s.t).1 fu (good_right s.k))
  generalize doS (changesC s.k s.t).1 fu (goodK s.k) = r at *
  by_cases hn : r.2 < (changesC s.k s.t).1.length
  · rw [if_pos hn]; exact ⟨hr, rfl⟩
  · rw [if_neg hn]; exact ⟨hr, rfl⟩
theorem lawSCleans (s : StR) (many fuel : Int) (hs : LsOk s.t) (hk : DkOk s.k) :
    Holds Tryz.prog 3 [.d s.d, .d (.int .i64 many), .d (.int .i64 fuel)] (.d (.bool true)) (fun _ => false) := by
  refine Holds.by (by kernel_rfl) Tryz.func3 (by kernel_rfl) rfl [20003] (by simp) (by kernel_rfl) (by kernel_rfl) rfl ?_
  conv in ccs _ => cbv
  have g1 := great20 s hs hk
  cases hg : smallLs s.t && smallK s.k with
  | false =>
    rw [hg] at g1
    simp (config := sc) (disch := first | exact dd | fail) [std, StR.d]
    refine o_call rfl rfl g1 rfl rfl ?_
    simp (config := sc) (disch := first | exact dd | fail) [std]
    refine o_call rfl rfl knows20 rfl rfl ?_
    simp (config := sc) (disch := first | exact dd | fail) [std]
  | true =>
    rw [hg] at g1
    rw [Bool.and_eq_true] at hg
    obtain ⟨h1, h2⟩ := small12 hg.1
    have ok := small_ok hg.2 hk
    have q1 := storeClean s ok ⟨by omega, fun l hl => by have := h2 l hl; omega⟩ (by omega) many fuel
    have q2 := ref20Clean s ok (by omega) (fun l hl => by have := h2 l hl; omega) many fuel
    have q3 := law20As s ok.1
    obtain ⟨r1, r2⟩ := clean_keeps s ok many fuel
    generalize cleanT s many fuel = r at *
    have q4 := law20As r.1 r1.1
    have q5 := ref20Same r.1 r1 (by rw [r2]; omega)
    simp (config := sc) (disch := first | exact dd | fail) [std, StR.d]
    refine o_call rfl rfl g1 rfl rfl ?_
    simp (config := sc) (disch := first | exact dd | fail) [std, StR.d]
    refine o_call rfl rfl q1 rfl rfl ?_
    simp (config := sc) (disch := first | exact dd | fail) [std, StR.d]
    refine o_call rfl rfl q3 rfl rfl ?_
    simp (config := sc) (disch := first | exact dd | fail) [std, StR.d]
    refine o_call rfl rfl q2 rfl rfl ?_
    simp (config := sc) (disch := first | exact dd | fail) [std, StR.d]
    refine o_call rfl rfl q4 rfl rfl ?_
    simp (config := sc) (disch := first | exact dd | fail) [std, StR.d]
    refine o_call rfl rfl q5 rfl rfl ?_
    simp (config := sc) (disch := first | exact dd | fail) [std]
    refine o_call rfl rfl knows20 rfl rfl ?_
    simp (config := sc) (disch := first | exact dd | fail) [std]

end Go.Proofs.YtkbidfohcanijaaGreat
