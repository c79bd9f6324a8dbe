/- The last leases: what the program answers. -/
import Derived.Test.YtnkmlhlegndlhaaGreatLastP
namespace Go.Proofs.YtnkmlhlegndlhaaGreat
open BoEng Go
set_option maxRecDepth 100000
set_option linter.unusedSimpArgs false
set_option linter.unusedVariables false
def lBox (xs : List LeaseR) : List PV := (flat (xs.map LeaseR.d)).map .d
theorem lBox_nil : lBox [] = [] := rfl
theorem lBox_cons (x : LeaseR) (xs : List LeaseR) : lBox (x :: xs) = .d (.int .i64 x.addr) :: .d (.int .i64 x.state) :: .d (.int .i64 x.expiry) :: .d (.str x.key) :: lBox xs := rfl
theorem lBox_app (xs ys : List LeaseR) : lBox (xs ++ ys) = lBox xs ++ lBox ys := by simp [lBox, flat_append]
@[simp] theorem lBox_len (xs : List LeaseR) : (lBox xs).length = xs.length * 4 := by
 induction xs with
 | nil => rfl
 | cons x xs ih => rw [lBox_cons]; simp only [List.length_cons, ih]; omega
theorem lBox_drop (xs : List LeaseR) : ∀ i, (lBox xs).drop (i * 4) = lBox (xs.drop i) := by
 induction xs with
 | nil => intro i; simp [lBox_nil]
 | cons x xs ih =>
   intro i
   cases i with
   | zero => simp
   | succ i =>
     rw [lBox_cons, show (i + 1) * 4 = i * 4 + 4 by omega]
     simp only [List.drop_succ_cons]
     exact ih i
theorem lBox_take (xs : List LeaseR) : ∀ i, (lBox xs).take (i * 4) = lBox (xs.take i) := by
 induction xs with
 | nil => intro i; simp [lBox_nil]
 | cons x xs ih =>
   intro i
   cases i with
   | zero => simp [lBox_nil]
   | succ i =>
     rw [lBox_cons, show (i + 1) * 4 = i * 4 + 4 by omega]
     simp only [List.take_succ_cons, ih i]
     exact (lBox_cons x _).symm
theorem lBox_fst {xs : List LeaseR} {i : Nat} (h : i < xs.length) : (lBox xs)[i * 4]? = some (.d (.int .i64 xs[i].addr)) := by
 have h1 : ((lBox xs).drop (i * 4))[0]? = some (.d (.int .i64 xs[i].addr)) := by
  rw [lBox_drop, List.drop_eq_getElem_cons h, lBox_cons]
  rfl
 rwa [List.getElem?_drop, Nat.add_zero] at h1
theorem lBox_set {xs : List LeaseR} {i : Nat} (h : i < xs.length) (l : LeaseR) : (lBox xs).take (i * 4) ++ .d (.int .i64 l.addr) :: .d (.int .i64 l.state) :: .d (.int .i64 l.expiry) :: .d (.str l.key) :: (lBox xs).drop (i * 4 + 4) = lBox (xs.set i l) := by
 rw [lBox_take, show i * 4 + 4 = (i + 1) * 4 by omega, lBox_drop, List.set_eq_take_append_cons_drop, if_pos h, lBox_app, lBox_cons]
theorem lBox_toD (xs : List LeaseR) : toD (lBox xs) = some (flat (xs.map LeaseR.d)) := by unfold lBox; exact toD_m
theorem lBox_chunk (xs : List LeaseR) : chunk 4 true xs.length (flat (xs.map LeaseR.d)) = xs.map LeaseR.d := by
 induction xs with
 | nil => rfl
 | cons x xs ih =>
   rw [List.map_cons, flat_cons, cells_lease, List.length_cons]
   simp only [chunk, List.cons_append, List.nil_append, List.take_succ_cons, List.take_zero, List.drop_succ_cons, List.drop_zero, if_true, ih, LeaseR.d]
theorem lBox_thaw {xs : List LeaseR} {n : Nat} (h : xs.length = n) : (toD ((lBox xs).take (n * 4))).map (chunk 4 true n) = some (xs.map LeaseR.d) := by
 subst h
 rw [List.take_of_length_le (by rw [lBox_len]; omega), lBox_toD, Option.map_some, lBox_chunk]
theorem lBox_part {xs : List LeaseR} {lo n : Nat} (h : lo + n ≤ xs.length) : (toD (((lBox xs).drop (lo * 4)).take (n * 4))).map (chunk 4 true n) = some (((xs.drop lo).take n).map LeaseR.d) := by
 rw [lBox_drop, lBox_take]
 have hl : ((xs.drop lo).take n).length = n := by simp; omega
 have := lBox_thaw (xs := (xs.drop lo).take n) hl
 rwa [List.take_of_length_le (by rw [lBox_len, hl]; omega)] at this
def lU (no g : Nat) (xs : List LeaseR) : Upd := ⟨no, g, lBox xs, fun _ => false⟩
end Go.Proofs.YtnkmlhlegndlhaaGreat
