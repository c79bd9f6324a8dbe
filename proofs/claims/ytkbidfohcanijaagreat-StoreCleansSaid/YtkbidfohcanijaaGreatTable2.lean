/- Tables of leases, second part: a lease is set; the document's answers. -/
import Derived.Test.YtkbidfohcanijaaGreatTable
namespace Go.Proofs.YtkbidfohcanijaaGreat
open BoEng Go
set_option maxRecDepth 100000
attribute [-simp] List.map_take List.map_drop List.length_flatMap
set_option linter.unusedSimpArgs false
set_option linter.unusedVariables false

theorem insL_nil (l : LeaseR) : insL [] l = [l] := by simp [insL, isA, posA]
theorem tableSet (t : List LeaseR) (l : LeaseR) (ht : t.length ≤ 1000000) (hk : ∀ l ∈ t, l.key.length ≤ 9223372036854775807) (hl : l.key.length ≤ 9223372036854775807) :
    Holds Tryz.prog 25 [.d (.slice (t.map LeaseR.d)), .d l.d] (.tup [.d (.slice ((setT t l).1.map LeaseR.d)), .d (.int .i64 (setT t l).2)]) (fun _ => false) := by
  refine Holds.by (by kernel_rfl) Tryz.func25 (by kernel_rfl) rfl [20003, 40010, 40018, 30034, 10041, 10043] (by simp) (by kernel_rfl) (by kernel_rfl) rfl ?_
  conv in ccs _ => cbv
  have q2 := recordRight l hl
  unfold setT
  cases hr : tableR t with
  | false =>
    have q1 := fun gl => tableGoodN t ht hk hr (fo := FO + 1000) (gl := gl)
    have hg : goodT t = [] := by unfold goodT; rw [if_neg (by rw [hr]; decide)]
    rw [hg]
    cases hrl : rightL l with
    | false =>
      rw [hrl] at q2
      rw [if_pos rfl]
      simp (config := sc) (disch := first | exact dd | fail) [std, LeaseR.d]
      refine o_cb (FO + 1000) rfl rfl (q1 _) rfl (by simp (config := sc) (disch := first | exact dd | fail) [std]) ?_
      simp (config := sc) (disch := first | exact dd | fail) [std, LeaseR.d]
      refine o_call rfl rfl q2 rfl rfl ?_
      simp (config := sc) (disch := first | exact dd | fail) [std, LeaseR.d]
    | true =>
      rw [hrl] at q2
      rw [if_neg (by simp), if_neg (by simp), insL_nil]
      have q3 := fun gl => tablePlace0 l.addr (fo := FO + 1000) (gl := gl)
      simp (config := sc) (disch := first | exact dd | fail) [std, LeaseR.d]
      refine o_cb (FO + 1000) rfl rfl (q1 _) rfl (by simp (config := sc) (disch := first | exact dd | fail) [std]) ?_
      simp (config := sc) (disch := first | exact dd | fail) [std, LeaseR.d]
      refine o_call rfl rfl q2 rfl rfl ?_
      simp (config := sc) (disch := first | exact dd | fail) [std, LeaseR.d]
      refine o_cb (FO + 1000) rfl rfl (q3 _) rfl (by simp (config := sc) (disch := first | exact dd | fail) [std]) ?_
      simp (config := sc) (disch := first | exact dd | fail) [std, LeaseR.d, flat_cons, flat_nil, thawB, chunk]
      done
  | true =>
    have q1 := fun gl => tableGoodB t ht hk hr (fo := FO + 1000) (gl := gl)
    rw [goodT_id hr]
    obtain ⟨h64, _, hsrt⟩ := tab_iff.1 hr
    cases hrl : rightL l with
    | false =>
      rw [hrl] at q2
      rw [if_pos rfl]
      simp (config := sc) (disch := first | exact dd | fail) [std, LeaseR.d]
      refine o_cb (FO + 1000) rfl rfl (q1 _) rfl (by simp (config := sc) (disch := first | exact dd | fail) [std]) ?_
      simp (config := sc) (disch := first | exact dd | fail) [std, LeaseR.d, lU]
      refine o_call rfl rfl q2 rfl rfl ?_
      simp (config := sc) (disch := first | exact dd | fail) [std, LeaseR.d, lU]
    | true =>
      rw [hrl] at q2
      rw [if_neg (by simp)]
      have q3 := fun g hg gl => tablePlaceB t l.addr (by omega) hsrt (FO + 1000 + 8) g (fo := FO + 2000) (gl := gl) (by omega) hg
      have hpl := posA_le t l.addr
      have hFO : FO + 1000 + 8 = FO + 1008 := rfl
      cases hia : isA t l.addr with
      | true =>
        obtain ⟨hp, _⟩ := isA_pos hia
        rw [if_neg (by simp)]
        rw [hia] at q3
        have hins : insL t l = t.set (posA t l.addr) l := by unfold insL; rw [if_pos hia]
        rw [hins]
        have hset := lBox_set hp l
        have hbl : posA t l.addr * 4 + 4 ≤ (lBox t).length := by rw [lBox_len]; omega
        have hth := lBox_thaw (xs := t.set (posA t l.addr) l) (n := t.length) (by simp)
        generalize posA t l.addr = p at *
        simp (config := sc) (disch := first | exact dd | fail) [std, LeaseR.d]
        refine o_cb (FO + 1000) rfl rfl (q1 _) rfl (by simp (config := sc) (disch := first | exact dd | fail) [std]) ?_
        simp (config := sc) (disch := first | exact dd | fail) [std, LeaseR.d, lU]
        refine o_call rfl rfl q2 rfl rfl ?_
        simp (config := sc) (disch := first | exact dd | fail) [std, LeaseR.d, lU]
        refine o_cb (FO + 2000) rfl rfl (q3 _ (by omega) _) rfl (by simp (config := sc) (disch := first | exact dd | fail) [std, lU]) ?_
        simp (config := sc) (disch := first | exact dd | fail) [std, LeaseR.d, lU, hp, hbl, hset, thawB, hth]
        done
      | false =>
        rw [hia] at q3
        by_cases hc : t.length = 64
        · rw [if_pos ⟨rfl, hc⟩]
          have hc' : (t.length : Int) = 64 := by omega
          simp (config := sc) (disch := first | exact dd | fail) [std, LeaseR.d]
          refine o_cb (FO + 1000) rfl rfl (q1 _) rfl (by simp (config := sc) (disch := first | exact dd | fail) [std]) ?_
          simp (config := sc) (disch := first | exact dd | fail) [std, LeaseR.d, lU]
          refine o_call rfl rfl q2 rfl rfl ?_
          simp (config := sc) (disch := first | exact dd | fail) [std, LeaseR.d, lU]
          refine o_cb (FO + 2000) rfl rfl (q3 _ (by omega) _) rfl (by simp (config := sc) (disch := first | exact dd | fail) [std, lU]) ?_
          simp (config := sc) (disch := first | exact dd | fail) [std, LeaseR.d, lU, hc']
          done
        · rw [if_neg (fun h => hc h.2)]
          have hc' : ¬ (t.length : Int) = 64 := by omega
          have hins : insL t l = t.take (posA t l.addr) ++ l :: t.drop (posA t l.addr) := by unfold insL; rw [if_neg (by rw [hia]; decide)]
          rw [hins]
          have hpart := lBox_part (xs := t) (lo := posA t l.addr) (n := t.length - posA t l.addr) (by omega)
          have hdl : (t.drop (posA t l.addr)).take (t.length - posA t l.addr) = t.drop (posA t l.addr) := List.take_of_length_le (by simp)
          have hW : ∀ g, thawW g (lBox t) g (posA t l.addr) (t.length - posA t l.addr) 4 true = some ((t.drop (posA t l.addr)).map LeaseR.d) := fun g => by
            unfold thawW
            rw [if_pos ⟨rfl, by rw [lBox_len]; omega, by simp⟩, hpart, hdl]
          have hth := lBox_thaw (xs := t.take (posA t l.addr) ++ l :: t.drop (posA t l.addr)) rfl
          rw [lBox_app, lBox_cons, ← lBox_take] at hth
          have hlen : (t.take (posA t l.addr) ++ l :: t.drop (posA t l.addr)).length = posA t l.addr + 1 + (t.length - posA t l.addr) := by simp; omega
          rw [hlen] at hth
          generalize posA t l.addr = p at *
          have hfl : (flat ((t.drop p).map LeaseR.d)).length = (t.length - p) * 4 := by
            have := lBox_len (t.drop p)
            rw [List.length_drop] at this
            rw [← this]
            simp [lBox]
          have hbx : (flat ((t.drop p).map LeaseR.d)).map PV.d = lBox (t.drop p) := rfl
          have hi1 : (p + 1 + (t.length - p)) * 4 ≤ p * 4 + ((t.length - p) * 4 + 1 + 1 + 1 + 1) := by omega
          have hi2 : p * 4 + ((t.length - p) * 4 + 1 + 1 + 1 + 1) = (p + 1 + (t.length - p)) * 4 := by omega
          simp (config := sc) (disch := first | exact dd | fail) [std, LeaseR.d]
          refine o_cb (FO + 1000) rfl rfl (q1 _) rfl (by simp (config := sc) (disch := first | exact dd | fail) [std]) ?_
          simp (config := sc) (disch := first | exact dd | fail) [std, LeaseR.d, lU]
          refine o_call rfl rfl q2 rfl rfl ?_
          simp (config := sc) (disch := first | exact dd | fail) [std, LeaseR.d, lU]
          refine o_cb (FO + 2000) rfl rfl (q3 _ (by omega) _) rfl (by simp (config := sc) (disch := first | exact dd | fail) [std, lU]) ?_
          simp (config := sc) (disch := first | exact dd | fail) [std, LeaseR.d, lU, hc', hW, flat_cons, flat_nil, thawB, hfl, hbx, hi1, hi2, hth]
          done

end Go.Proofs.YtkbidfohcanijaaGreat
