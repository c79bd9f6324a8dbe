/- The last leases: what the program answers. -/
import Derived.Test.YtkbidfohcanijaaGreatLastP
namespace Go.Proofs.YtkbidfohcanijaaGreat
open BoEng Go
set_option maxRecDepth 100000
attribute [-simp] List.map_take List.map_drop List.length_flatMap
set_option linter.unusedSimpArgs false
set_option linter.unusedVariables false

/-- A box that has leases. -/
def lBox (xs : List LeaseR) : List PV := (flat (xs.map LeaseR.d)).map .d
theorem lBox_nil : lBox [] = [] := rfl
theorem lBox_cons (x : LeaseR) (xs : List LeaseR) : lBox (x :: xs) = .d (.int .i64 x.addr) :: .d (.int .i64 x.state) :: .d (.int .i64 x.expiry) :: .d (.str x.key) :: lBox xs := rfl
theorem lBox_app (xs ys : List LeaseR) : lBox (xs ++ ys) = lBox xs ++ lBox ys := by simp [lBox, flat_append]
@[simp] theorem lBox_len (xs : List LeaseR) : (lBox xs).length = xs.length * 4 := by
  induction xs with
  | nil => rfl
  | cons x xs ih => rw [lBox_cons]; simp only [List.length_cons, ih]; omega
theorem lBox_drop (xs : List LeaseR) : ∀ i, (lBox xs).drop (i * 4) = lBox (xs.drop i) := by
  induction xs with
  | nil => intro i; simp [lBox_nil]
  | cons x xs ih =>
    intro i
    cases i with
    | zero => simp
    | succ i =>
      rw [lBox_cons, show (i + 1) * 4 = i * 4 + 4 by omega]
      simp only [List.drop_succ_cons]
      exact ih i
theorem lBox_take (xs : List LeaseR) : ∀ i, (lBox xs).take (i * 4) = lBox (xs.take i) := by
  induction xs with
  | nil => intro i; simp [lBox_nil]
  | cons x xs ih =>
    intro i
    cases i with
    | zero => simp [lBox_nil]
    | succ i =>
      rw [lBox_cons, show (i + 1) * 4 = i * 4 + 4 by omega]
      simp only [List.take_succ_cons, ih i]
      exact (lBox_cons x _).symm
theorem lBox_at {xs : List LeaseR} {i : Nat} (h : i < xs.length) : ((lBox xs).drop (i * 4)).take 4 = [.d (.int .i64 xs[i].addr), .d (.int .i64 xs[i].state), .d (.int .i64 xs[i].expiry), .d (.str xs[i].key)] := by
  rw [lBox_drop, List.drop_eq_getElem_cons h, lBox_cons]
  rfl
theorem lBox_fst {xs : List LeaseR} {i : Nat} (h : i < xs.length) : (lBox xs)[i * 4]? = some (.d (.int .i64 xs[i].addr)) := by
  have h1 : ((lBox xs).drop (i * 4))[0]? = some (.d (.int .i64 xs[i].addr)) := by
    rw [lBox_drop, List.drop_eq_getElem_cons h, lBox_cons]
    rfl
  rwa [List.getElem?_drop, Nat.add_zero] at h1
theorem lBox_set {xs : List LeaseR} {i : Nat} (h : i < xs.length) (l : LeaseR) : (lBox xs).take (i * 4) ++ .d (.int .i64 l.addr) :: .d (.int .i64 l.state) :: .d (.int .i64 l.expiry) :: .d (.str l.key) :: (lBox xs).drop (i * 4 + 4) = lBox (xs.set i l) := by
  rw [lBox_take, show i * 4 + 4 = (i + 1) * 4 by omega, lBox_drop, List.set_eq_take_append_cons_drop, if_pos h, lBox_app, lBox_cons]
theorem lBox_toD (xs : List LeaseR) : toD (lBox xs) = some (flat (xs.map LeaseR.d)) := by unfold lBox; exact toD_m
theorem lBox_chunk (xs : List LeaseR) : chunk 4 true xs.length (flat (xs.map LeaseR.d)) = xs.map LeaseR.d := by
  induction xs with
  | nil => rfl
  | cons x xs ih =>
    rw [List.map_cons, flat_cons, cells_lease, List.length_cons]
    simp only [chunk, List.cons_append, List.nil_append, List.take_succ_cons, List.take_zero, List.drop_succ_cons, List.drop_zero, if_true, ih, LeaseR.d]
theorem lBox_thaw {xs : List LeaseR} {n : Nat} (h : xs.length = n) : (toD ((lBox xs).take (n * 4))).map (chunk 4 true n) = some (xs.map LeaseR.d) := by
  subst h
  rw [List.take_of_length_le (by rw [lBox_len]; omega), lBox_toD, Option.map_some, lBox_chunk]
theorem lBox_part {xs : List LeaseR} {lo n : Nat} (h : lo + n ≤ xs.length) : (toD (((lBox xs).drop (lo * 4)).take (n * 4))).map (chunk 4 true n) = some (((xs.drop lo).take n).map LeaseR.d) := by
  rw [lBox_drop, lBox_take]
  have hl : ((xs.drop lo).take n).length = n := by simp; omega
  have := lBox_thaw (xs := (xs.drop lo).take n) hl
  rwa [List.take_of_length_le (by rw [lBox_len, hl]; omega)] at this
def lU (no g : Nat) (xs : List LeaseR) : Upd := ⟨no, g, lBox xs, fun _ => false⟩
def aU (na ga : Nat) (a : LeaseR) : Upd := ⟨na, ga, [.d (.int .i64 a.addr), .d (.int .i64 a.state), .d (.int .i64 a.expiry), .d (.str a.key)], fun _ => false⟩

def cmpA (b a : LeaseR) : Int := if b.addr < a.addr then -1 else if a.addr < b.addr then 1 else 0
theorem lastCmp (b a : LeaseR) (na ga : Nat) {fo : Nat} {gl : Nat → Nat} (hna : na < fo) (hga : 0 < ga) : Meets Tryz.prog fo gl 58 [.d b.d, .ptr na ga 0] [aU na ga a] (.d (.int .i64 (cmpA b a))) (fun _ => false) [aU na ga a] := by
  refine Meets.by (by kernel_rfl) Tryz.func58 (by kernel_rfl) rfl [20002] (by simp) (by kernel_rfl) (by kernel_rfl) (by simp [namesIn, namesL, hga, aU]) (by simp [namesIn, namesL, hga, aU]) (by simp [hga, aU]) ?_
  conv in ccs _ => cbv
  have hk1 : ∀ k, (na = fo + k) = False := fun k => by simp; omega
  have hk2 : ∀ k, (fo + k = na) = False := fun k => by simp; omega
  unfold cmpA
  by_cases h1 : b.addr < a.addr
  · simp (config := sc) (disch := first | exact dd | fail) [std, aU, hk1, hk2, h1]
  · by_cases h2 : a.addr < b.addr
    · simp (config := sc) (disch := first | exact dd | fail) [std, aU, hk1, hk2, h1, h2]
    · simp (config := sc) (disch := first | exact dd | fail) [std, aU, hk1, hk2, h1, h2]

def plI (fo no g na ga : Nat) (xs : List LeaseR) (a : LeaseR) (i : Nat) (S : PS) : Prop :=
  i ≤ xs.length ∧ (∀ j (h : j < xs.length), j < i → xs[j].addr < a.addr) ∧ S.t 0 = .bsl no g xs.length 4 true ∧ S.t 1 = .fn 58 [.ptr na ga 0] ∧ S.t 9 = .bsl no g xs.length 4 true ∧ S.t 10 = .d (.int .i64 xs.length) ∧ S.t 11 = .d (.int .i64 i) ∧ S.fo = fo ∧
    S.gen no = g ∧ S.box no = lBox xs ∧ S.gen na = ga ∧ S.box na = [.d (.int .i64 a.addr), .d (.int .i64 a.state), .d (.int .i64 a.expiry), .d (.str a.key)]
theorem cleanPlace (xs : List LeaseR) (a : LeaseR) (no g na ga : Nat) {fo : Nat} {gl : Nat → Nat} (hno : no < fo) (hna : na < fo) (hne : no ≠ na) (hg : 0 < g) (hga : 0 < ga) (hx : xs.length ≤ 1000000) :
    Meets Tryz.prog fo gl 57 [.bsl no g xs.length 4 true, .fn 58 [.ptr na ga 0]] [lU no g xs, aU na ga a] (.tup [.d (.int .i64 (posA xs a.addr)), .d (.bool (isA xs a.addr))]) (fun _ => false) [lU no g xs, aU na ga a] := by
  refine Meets.by (by kernel_rfl) Tryz.func57 (by kernel_rfl) rfl [60007, 70014, 70015, 40018] (by simp) (by kernel_rfl) (by kernel_rfl) (by simp [namesIn, namesL, hg, hga, aU, lU, lBox]) (by simp [namesIn, namesL, hg, hga, aU, lU, lBox]) (by simp [hg, hga, aU, lU, lBox]) ?_
  conv in ccs _ => cbv
  have hne' : na ≠ no := fun e => hne e.symm
  have hk1 : ∀ k, (no = fo + k) = False := fun k => by simp; omega
  have hk2 : ∀ k, (fo + k = no) = False := fun k => by simp; omega
  have hk3 : ∀ k, (na = fo + k) = False := fun k => by simp; omega
  have hk4 : ∀ k, (fo + k = na) = False := fun k => by simp; omega
  simp (config := sc) (disch := first | exact dd | fail) [std, aU, lU]
  refine lp (plI fo no g na ga xs a) (fun i => xs.length - i) 0 ⟨by omega, by simp, by simp (config := sc) (disch := first | exact dd | fail) [std], by simp (config := sc) (disch := first | exact dd | fail) [std], by simp (config := sc) (disch := first | exact dd | fail) [std], by simp (config := sc) (disch := first | exact dd | fail) [std], by simp (config := sc) (disch := first | exact dd | fail) [std], by simp (config := sc) (disch := first | exact dd | fail) [std], by simp (config := sc) (disch := first | exact dd | fail) [std, hne, hne', hk1, hk2, hk3, hk4], by simp (config := sc) (disch := first | exact dd | fail) [std, hne, hne', hk1, hk2, hk3, hk4], by simp (config := sc) (disch := first | exact dd | fail) [std, hne, hne', hk1, hk2, hk3, hk4], by simp (config := sc) (disch := first | exact dd | fail) [std, hne, hne', hk1, hk2, hk3, hk4]⟩ ?_
  rintro i S ⟨hi, hlo, e0, e1, e9, e10, e11, efo, g1, b1, g2, b2⟩
  by_cases hlt : i < xs.length
  · have k6 : (i : Int) < xs.length := by omega
    have hat := lBox_at hlt
    have hbl : i * 4 + 4 ≤ (lBox xs).length := by rw [lBox_len]; omega
    have q := fun gl => lastCmp xs[i] a na ga (fo := fo + 1000) (gl := gl) (by omega) hga
    unfold cmpA at q
    by_cases c1 : xs[i].addr < a.addr
    · rw [if_pos c1] at q
      simp (config := sc) (disch := first | exact dd | fail) [std, e0, e1, e9, e10, e11, efo, g1, b1, g2, b2, k6, hat, hbl, hk1, hk2, hk3, hk4, hne, hne']
      refine o_cb (fo + 1000) rfl rfl (q _) rfl ?_ ?_
      · simp (config := sc) (disch := first | exact dd | fail) [std, aU, e0, e1, e9, e10, e11, efo, g1, b1, g2, b2, k6, hat, hbl, hk1, hk2, hk3, hk4, hne, hne', hga]
      · simp (config := sc) (disch := first | exact dd | fail) [std, aU, e0, e1, e9, e10, e11, efo, g1, b1, g2, b2, k6, hat, hbl, hk1, hk2, hk3, hk4, hne, hne', c1]
        exact nxt_of (i + 1) ⟨by omega, fun j h hj => by
          by_cases e : j = i
          · subst e; exact c1
          · exact hlo j h (by omega), by simp (config := sc) (disch := first | exact dd | fail) [std, e0], by simp (config := sc) (disch := first | exact dd | fail) [std, e1], by simp (config := sc) (disch := first | exact dd | fail) [std, e9], by simp (config := sc) (disch := first | exact dd | fail) [std, e10], by simp (config := sc) (disch := first | exact dd | fail) [std], by simp (config := sc) (disch := first | exact dd | fail) [std, efo], by simp (config := sc) (disch := first | exact dd | fail) [std, aU, e0, e1, e9, e10, e11, efo, g1, b1, g2, b2, k6, hat, hbl, hk1, hk2, hk3, hk4, hne, hne'], by simp (config := sc) (disch := first | exact dd | fail) [std, aU, e0, e1, e9, e10, e11, efo, g1, b1, g2, b2, k6, hat, hbl, hk1, hk2, hk3, hk4, hne, hne'], by simp (config := sc) (disch := first | exact dd | fail) [std, aU, e0, e1, e9, e10, e11, efo, g1, b1, g2, b2, k6, hat, hbl, hk1, hk2, hk3, hk4, hne, hne'], by simp (config := sc) (disch := first | exact dd | fail) [std, aU, e0, e1, e9, e10, e11, efo, g1, b1, g2, b2, k6, hat, hbl, hk1, hk2, hk3, hk4, hne, hne']⟩ (by omega)
    · have hp : posA xs a.addr = i := posA_eq hi hlo fun _ => by omega
      have hia : isA xs a.addr = decide (xs[i].addr = a.addr) := by
        simp only [isA, hp, hlt, decide_true, Bool.true_and, List.getD_eq_getElem?_getD, List.getElem?_eq_getElem hlt, Option.getD_some]
      rw [if_neg c1] at q
      rw [hp, hia]
      by_cases c2 : a.addr < xs[i].addr
      · have hne2 : ¬ xs[i].addr = a.addr := by omega
        rw [if_pos c2] at q
        simp (config := sc) (disch := first | exact dd | fail) [std, e0, e1, e9, e10, e11, efo, g1, b1, g2, b2, k6, hat, hbl, hk1, hk2, hk3, hk4, hne, hne']
        refine o_cb (fo + 1000) rfl rfl (q _) rfl ?_ ?_
        · simp (config := sc) (disch := first | exact dd | fail) [std, aU, e0, e1, e9, e10, e11, efo, g1, b1, g2, b2, k6, hat, hbl, hk1, hk2, hk3, hk4, hne, hne', hga]
        · simp (config := sc) (disch := first | exact dd | fail) [std, aU, lU, e0, e1, e9, e10, e11, efo, g1, b1, g2, b2, k6, hat, hbl, hk1, hk2, hk3, hk4, hne, hne', c1, c2, hne2]
      · have he2 : xs[i].addr = a.addr := by omega
        rw [if_neg c2] at q
        simp (config := sc) (disch := first | exact dd | fail) [std, e0, e1, e9, e10, e11, efo, g1, b1, g2, b2, k6, hat, hbl, hk1, hk2, hk3, hk4, hne, hne']
        refine o_cb (fo + 1000) rfl rfl (q _) rfl ?_ ?_
        · simp (config := sc) (disch := first | exact dd | fail) [std, aU, e0, e1, e9, e10, e11, efo, g1, b1, g2, b2, k6, hat, hbl, hk1, hk2, hk3, hk4, hne, hne', hga]
        · simp (config := sc) (disch := first | exact dd | fail) [std, aU, lU, e0, e1, e9, e10, e11, efo, g1, b1, g2, b2, k6, hat, hbl, hk1, hk2, hk3, hk4, hne, hne', c1, c2, he2]
  · have k6 : ¬ (i : Int) < xs.length := by omega
    have hil : i = xs.length := by omega
    have hp : posA xs a.addr = xs.length := posA_eq (Nat.le_refl _) (fun j h _ => hlo j h (by omega)) fun h => by omega
    have hia : isA xs a.addr = false := by
      simp only [isA, hp, Nat.lt_irrefl, decide_false, Bool.false_and]
    rw [hp, hia]
    simp (config := sc) (disch := first | exact dd | fail) [std, aU, lU, e0, e1, e9, e10, e11, efo, g1, b1, g2, b2, k6, hk1, hk2, hk3, hk4, hne, hne']
theorem cleanPlace0 (a : LeaseR) (na ga : Nat) {fo : Nat} {gl : Nat → Nat} (hna : na < fo) (hga : 0 < ga) :
    Meets Tryz.prog fo gl 57 [.d (.slice []), .fn 58 [.ptr na ga 0]] [aU na ga a] (.tup [.d (.int .i64 0), .d (.bool false)]) (fun _ => false) [aU na ga a] := by
  refine Meets.by (by kernel_rfl) Tryz.func57 (by kernel_rfl) rfl [60007, 70014, 70015, 40018] (by simp) (by kernel_rfl) (by kernel_rfl) (by simp [namesIn, namesL, hga, aU]) (by simp [namesIn, namesL, hga, aU]) (by simp [hga, aU]) ?_
  conv in ccs _ => cbv
  have hk3 : ∀ k, (na = fo + k) = False := fun k => by simp; omega
  have hk4 : ∀ k, (fo + k = na) = False := fun k => by simp; omega
  simp (config := sc) (disch := first | exact dd | fail) [std, aU]
  refine lp (fun (_ : Unit) S => S.t 0 = .d (.slice []) ∧ S.t 9 = .d (.slice []) ∧ S.t 10 = .d (.int .i64 0) ∧ S.t 11 = .d (.int .i64 0) ∧ S.fo = fo ∧ S.gen na = ga ∧ S.box na = [.d (.int .i64 a.addr), .d (.int .i64 a.state), .d (.int .i64 a.expiry), .d (.str a.key)]) (fun _ => 0) () ⟨by simp (config := sc) (disch := first | exact dd | fail) [std], by simp (config := sc) (disch := first | exact dd | fail) [std], by simp (config := sc) (disch := first | exact dd | fail) [std], by simp (config := sc) (disch := first | exact dd | fail) [std], by simp (config := sc) (disch := first | exact dd | fail) [std], by simp (config := sc) (disch := first | exact dd | fail) [std, hk3, hk4], by simp (config := sc) (disch := first | exact dd | fail) [std, hk3, hk4]⟩ ?_
  rintro _ S ⟨e0, e9, e10, e11, efo, g2, b2⟩
  simp (config := sc) (disch := first | exact dd | fail) [std, aU, e0, e9, e10, e11, efo, g2, b2, hk3, hk4]

def clI (ls : List LeaseR) (q : Nat × Nat) (S : PS) : Prop :=
  q.1 ≤ ls.length ∧ S.t 9 = .d (.slice (ls.map LeaseR.d)) ∧ S.t 10 = .d (.int .i64 ls.length) ∧ S.t 11 = .d (.int .i64 q.1) ∧ S.fo = FO ∧
    ((q.1 = 0 ∧ S.t 3 = .d (.slice []) ∧ S.own (.t 3 0) = true) ∨ (0 < q.1 ∧ 0 < q.2 ∧ S.t 3 = .bsl (FO + 37) q.2 (lastL (ls.take q.1)).length 4 true ∧ S.gen (FO + 37) = q.2 ∧ S.box (FO + 37) = lBox (lastL (ls.take q.1))))
theorem cleanLast (ls : List LeaseR) (hl : ls.length ≤ 100000) : Holds Tryz.prog 30 [.d (.slice (ls.map LeaseR.d))] (.d (.slice ((lastL ls).map LeaseR.d))) (fun _ => false) := by
  refine Holds.by (by kernel_rfl) Tryz.func30 (by kernel_rfl) rfl [50013, 50014, 40018, 30030, 10037, 10039] (by simp) (by kernel_rfl) (by kernel_rfl) rfl ?_
  conv in ccs _ => cbv
  simp (config := sc) (disch := first | exact dd | fail) [std]
  refine lp (clI ls) (fun q => ls.length - q.1) (0, 0) ⟨by simp, by simp, by simp, by simp, by simp, .inl ⟨by simp, by simp, by simp⟩⟩ ?_
  rintro ⟨i, g⟩ S ⟨hi, e9, e10, e11, efo, hout⟩
  dsimp only at hi e9 e10 e11 hout
  by_cases hlt : i < ls.length
  · have k6 : (i : Int) < ls.length := by omega
    have hti : lastL (ls.take (i + 1)) = insL (lastL (ls.take i)) ls[i] := by rw [List.take_succ_eq_append_getElem hlt, lastL_snoc]
    have hn : nth ls (i : Int) = ls[i] := nth_nat hlt
    generalize ls[i] = a at *
    rcases hout with ⟨rfl, e3, o3⟩ | ⟨hi0, hg0, e3, g37, b37⟩
    · have q := fun gl => cleanPlace0 a (FO + 5) (S.gen (FO + 5) + 1) (fo := FO + 1000) (gl := gl) (by omega) (by omega)
      have hti : lastL (ls.take 1) = [a] := hti
      have hn : nth ls 0 = a := hn
      simp (config := sc) (disch := first | exact dd | fail) [std, e3, o3, e9, e10, e11, efo, k6, hn]
      refine o_cb (FO + 1000) rfl rfl (q _) rfl ?_ ?_
      · simp (config := sc) (disch := first | exact dd | fail) [std, aU, efo, hn]
      · simp (config := sc) (disch := first | exact dd | fail) [std, aU, e3, o3, e9, e10, e11, efo, k6, hn, flat_cons, flat_nil]
        exact nxt_of (1, S.gen (FO + 37) + 2) ⟨by show 1 ≤ ls.length; omega, by simp (config := sc) (disch := first | exact dd | fail) [std, e9], by simp (config := sc) (disch := first | exact dd | fail) [std, e10], by simp (config := sc) (disch := first | exact dd | fail) [std], by simp (config := sc) (disch := first | exact dd | fail) [std, efo], .inr ⟨by simp, by simp, by rw [hti]; simp (config := sc) (disch := first | exact dd | fail) [std, efo], by simp (config := sc) (disch := first | exact dd | fail) [std, efo], by rw [hti]; simp (config := sc) (disch := first | exact dd | fail) [std, efo, lBox_cons, lBox_nil]⟩⟩ (by show ls.length - 1 < ls.length - 0; omega)
    · have hxl : (lastL (ls.take i)).length ≤ 100000 := by have := lastL_len (ls.take i); simp only [List.length_take] at this; omega
      generalize lastL (ls.take i) = xs at *
      have hp := posA_le xs a.addr
      have q := fun gl => cleanPlace xs a (FO + 37) g (FO + 5) (S.gen (FO + 5) + 1) (fo := FO + 1000) (gl := gl) (by omega) (by omega) (by decide) hg0 (by omega) (by omega)
      unfold insL at hti
      cases hia : isA xs a.addr with
      | true =>
        obtain ⟨hpl, _⟩ := isA_pos hia
        rw [hia] at q hti
        rw [if_pos rfl] at hti
        have hset := lBox_set hpl a
        have hbl : posA xs a.addr * 4 + 4 ≤ (lBox xs).length := by rw [lBox_len]; omega
        generalize posA xs a.addr = p at *
        simp (config := sc) (disch := first | exact dd | fail) [std, e3, e9, e10, e11, efo, k6, hn, g37, b37]
        refine o_cb (FO + 1000) rfl rfl (q _) rfl ?_ ?_
        · simp (config := sc) (disch := first | exact dd | fail) [std, aU, lU, efo, hn, g37, b37, hg0]
        · simp (config := sc) (disch := first | exact dd | fail) [std, aU, lU, e3, e9, e10, e11, efo, k6, hn, g37, b37, hpl, hbl, hset]
          exact nxt_of (i + 1, g) ⟨by show i + 1 ≤ ls.length; omega, by simp (config := sc) (disch := first | exact dd | fail) [std, e9], by simp (config := sc) (disch := first | exact dd | fail) [std, e10], by simp (config := sc) (disch := first | exact dd | fail) [std], by simp (config := sc) (disch := first | exact dd | fail) [std, efo], .inr ⟨by simp, hg0, by rw [hti]; simp (config := sc) (disch := first | exact dd | fail) [std, efo, e3], by simp (config := sc) (disch := first | exact dd | fail) [std, efo, g37], by rw [hti]; simp (config := sc) (disch := first | exact dd | fail) [std, efo, hset]⟩⟩ (by show ls.length - (i + 1) < ls.length - i; omega)
      | false =>
        rw [hia] at q hti
        rw [if_neg (by simp)] at hti
        generalize posA xs a.addr = p at *
        have hpart := lBox_part (xs := xs) (lo := p) (n := xs.length - p) (by omega)
        have hdl : (xs.drop p).take (xs.length - p) = xs.drop p := List.take_of_length_le (by simp)
        have hW : thawW g (lBox xs) g p (xs.length - p) 4 true = some ((xs.drop p).map LeaseR.d) := by
          unfold thawW
          rw [if_pos ⟨rfl, by rw [lBox_len]; omega, by simp⟩, hpart, hdl]
        simp (config := sc) (disch := first | exact dd | fail) [std, e3, e9, e10, e11, efo, k6, hn, g37, b37]
        refine o_cb (FO + 1000) rfl rfl (q _) rfl ?_ ?_
        · simp (config := sc) (disch := first | exact dd | fail) [std, aU, lU, efo, hn, g37, b37, hg0]
        · simp (config := sc) (disch := first | exact dd | fail) [std, aU, lU, e3, e9, e10, e11, efo, k6, hn, g37, b37, flat_cons, flat_nil, hW]
          exact nxt_of (i + 1, g + 2) ⟨by show i + 1 ≤ ls.length; omega, by simp (config := sc) (disch := first | exact dd | fail) [std, e9], by simp (config := sc) (disch := first | exact dd | fail) [std, e10], by simp (config := sc) (disch := first | exact dd | fail) [std], by simp (config := sc) (disch := first | exact dd | fail) [std, efo], .inr ⟨by simp, by simp, by rw [hti]; simp (config := sc) (disch := first | exact dd | fail) [std, efo, e3, g37]; omega, by simp (config := sc) (disch := first | exact dd | fail) [std, efo, g37], by rw [hti, lBox_app, lBox_cons, ← lBox_take]; simp (config := sc) (disch := first | exact dd | fail) [std, efo, b37]; rfl⟩⟩ (by show ls.length - (i + 1) < ls.length - i; omega)
  · have k6 : ¬ (i : Int) < ls.length := by omega
    have ht : ls.take i = ls := List.take_of_length_le (by omega)
    rw [ht] at hout
    rcases hout with ⟨hi0, e3, o3⟩ | ⟨hi0, hg0, e3, g37, b37⟩
    · have : ls = [] := List.eq_nil_of_length_eq_zero (by omega)
      subst this
      simp (config := sc) (disch := first | exact dd | fail) [std, e3, o3, e9, e10, e11, efo, lastL]
    · have hth := lBox_thaw (xs := lastL ls) rfl
      simp (config := sc) (disch := first | exact dd | fail) [std, e3, e9, e10, e11, efo, k6, g37, b37, thawB, hth]
      done

end Go.Proofs.YtkbidfohcanijaaGreat
