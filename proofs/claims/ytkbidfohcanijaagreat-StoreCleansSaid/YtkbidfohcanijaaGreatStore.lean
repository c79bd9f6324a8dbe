/- Stores: a table that lasts; what the program and the document answer. -/
import Derived.Test.YtkbidfohcanijaaGreatTable2
import Derived.Test.YtkbidfohcanijaaGreatClean2
import Derived.Test.YtkbidfohcanijaaGreatReadFew
import Derived.Test.YtkbidfohcanijaaGreatKept
namespace Go.Proofs.YtkbidfohcanijaaGreat
open BoEng Go
set_option maxRecDepth 100000
attribute [-simp] List.map_take List.map_drop List.length_flatMap
set_option linter.unusedSimpArgs false
set_option linter.unusedVariables false

structure StR where
  t : List LeaseR
  k : Dk
instance : Inhabited StR := ⟨⟨[], dk0⟩⟩
def StR.d (s : StR) : DV := .agg [.slice (s.t.map LeaseR.d), .slice (s.k.files.map FileD.d), .slice (s.k.now.map Ent.d), .slice (s.k.kept.map Ent.d)]
@[simp] theorem cells_st (s : StR) : cells s.d = [.slice (s.t.map LeaseR.d), .slice (s.k.files.map FileD.d), .slice (s.k.now.map Ent.d), .slice (s.k.kept.map Ent.d)] := rfl
def st0 : StR := ⟨[], dk0⟩
def TOk (t : List LeaseR) : Prop := t.length ≤ 1000000 ∧ ∀ l ∈ t, l.key.length ≤ 1000000
def openT (k : Dk) : StR × Int :=
  if (openJ k).2 ≠ 0 then (st0, (openJ k).2)
  else if tableR (lastL (readJ (getS (openJ k).1 [106]).1).1) = false then (st0, 3)
  else (⟨lastL (readJ (getS (openJ k).1 [106]).1).1, (openJ k).1⟩, 0)
/-- Changes are done, and what is known behind them. -/
def planS (s : StR) (cs : List ChR) (t : List LeaseR) (fuel : Int) : StR × Nat × Bool :=
  if (doS cs (if fuel < 0 then cs.length else fuel.toNat) (goodK s.k)).2 < cs.length then (⟨s.t, (doS cs (if fuel < 0 then cs.length else fuel.toNat) (goodK s.k)).1⟩, (doS cs (if fuel < 0 then cs.length else fuel.toNat) (goodK s.k)).2, false)
  else (⟨t, (doS cs (if fuel < 0 then cs.length else fuel.toNat) (goodK s.k)).1⟩, (doS cs (if fuel < 0 then cs.length else fuel.toNat) (goodK s.k)).2, true)
def putT (s : StR) (l : LeaseR) (fuel : Int) : StR × Nat × Bool :=
  if (setT s.t l).2 ≠ 0 ∨ (addJ s.k l).2 ≠ 0 then (s, 0, false) else planS s (addJ s.k l).1 (setT s.t l).1 fuel
def cleanT (s : StR) (many fuel : Int) : StR × Nat × Bool :=
  if dueJ s.k many = false then (s, 0, true) else if (changesC s.k s.t).2 ≠ 0 then (s, 0, false) else planS s (changesC s.k s.t).1 s.t fuel
theorem jlist_key (k : Dk) : ∀ l ∈ (readJ (getS k [106]).1).1, l.key.length ≤ 1000000 := by
  intro l hl
  generalize hr : readJ (getS k [106]).1 = r at *
  obtain ⟨xs, n, e⟩ := r
  have he := read_err (getS k [106]).1
  rw [hr] at he
  dsimp only at he hl
  have key : rightL l = true → l.key.length ≤ 1000000 := fun h => by have := key_len (right_rng h).2.2.2; omega
  rcases he with rfl | rfl | rfl
  · exact key ((read_right hr (.inl rfl)).1 l hl)
  · exact key ((read_right hr (.inr rfl)).1 l hl)
  · have h := jrd_bad (getS k [106]).1 (getS k [106]).1.length 0 [] (by omega) (by omega)
    have h2 : (readJ (getS k [106]).1).1 = [] := h (by show (readJ _).2.2 = 2; rw [hr])
    rw [hr] at h2
    dsimp only at h2
    subst h2
    simp at hl

theorem storeOpen (k : Dk) (hk : okK k) : Holds Tryz.prog 13 [.d k.d] (.tup [.d (openT k).1.d, .d (.int .i64 (openT k).2)]) (fun _ => false) := by
  refine Holds.by (by kernel_rfl) Tryz.func13 (by kernel_rfl) rfl [] (by simp) (by kernel_rfl) (by kernel_rfl) rfl ?_
  conv in ccs _ => cbv
  have q1 := journalOpen k hk
  have hor := ok_right (open_right k)
  unfold openT
  generalize openJ k = o at *
  obtain ⟨x, e⟩ := o
  dsimp only at q1 hor ⊢
  by_cases h0 : e = 0
  · rw [if_neg (fun h => h h0)]
    have q2 := journalRead x hor (by have := get_len x [106]; omega)
    have hf := read_few x
    have hky := jlist_key x
    generalize readJ (getS x [106]).1 = r at *
    obtain ⟨ls, n, f⟩ := r
    dsimp only at q2 hf hky ⊢
    have q3 := cleanLast ls (by omega)
    have hll := lastL_len ls
    have q4 := tableRight (lastL ls) (by omega) (fun l hl => by have := hky l (lastL_mem hl); omega)
    generalize lastL ls = t at *
    cases hr : tableR t with
    | false =>
      rw [hr] at q4
      simp (config := sc) (disch := first | exact dd | fail) [std, Dk.d]
      refine o_call rfl rfl q1 rfl rfl ?_
      simp (config := sc) (disch := first | exact dd | fail) [std, h0]
      refine o_call rfl rfl q2 rfl rfl ?_
      simp (config := sc) (disch := first | exact dd | fail) [std]
      refine o_call rfl rfl q3 rfl rfl ?_
      simp (config := sc) (disch := first | exact dd | fail) [std]
      refine o_call rfl rfl q4 rfl rfl ?_
      simp (config := sc) (disch := first | exact dd | fail) [std, StR.d, st0, dk0]
    | true =>
      rw [hr] at q4
      simp (config := sc) (disch := first | exact dd | fail) [std, Dk.d]
      refine o_call rfl rfl q1 rfl rfl ?_
      simp (config := sc) (disch := first | exact dd | fail) [std, h0]
      refine o_call rfl rfl q2 rfl rfl ?_
      simp (config := sc) (disch := first | exact dd | fail) [std]
      refine o_call rfl rfl q3 rfl rfl ?_
      simp (config := sc) (disch := first | exact dd | fail) [std]
      refine o_call rfl rfl q4 rfl rfl ?_
      simp (config := sc) (disch := first | exact dd | fail) [std, StR.d]
  · rw [if_pos h0]
    simp (config := sc) (disch := first | exact dd | fail) [std, Dk.d]
    refine o_call rfl rfl q1 rfl rfl ?_
    simp (config := sc) (disch := first | exact dd | fail) [std, h0, StR.d, st0, dk0]

theorem law20As (s : StR) (hk : sizedK s.k) : Holds Tryz.prog 8 [.d s.d] (.d s.d) (fun _ => false) := by
  refine Holds.by (by kernel_rfl) Tryz.func8 (by kernel_rfl) rfl [20001] (by simp) (by kernel_rfl) (by kernel_rfl) rfl ?_
  conv in ccs _ => cbv
  have q := lawAs s.k hk
  simp (config := sc) (disch := first | exact dd | fail) [std, StR.d]
  refine o_call rfl rfl q rfl rfl ?_
  simp (config := sc) (disch := first | exact dd | fail) [std, StR.d, Dk.d]

theorem ref20Same (s : StR) (hk : okK s.k) (ht : s.t.length ≤ 1000000) : Holds Tryz.prog 9 [.d s.d, .d s.d] (.d (.bool true)) (fun _ => false) := by
  refine Holds.by (by kernel_rfl) Tryz.func9 (by kernel_rfl) rfl [20002, 20003] (by simp) (by kernel_rfl) (by kernel_rfl) rfl ?_
  conv in ccs _ => cbv
  have q1 := ref10SameLeases s.t s.t ht ht
  have q2 := ref08Same s.k hk
  have hdt : decide (s.t = s.t) = true := by simp
  rw [hdt] at q1
  simp (config := sc) (disch := first | exact dd | fail) [std, StR.d]
  refine o_call rfl rfl q1 rfl rfl ?_
  simp (config := sc) (disch := first | exact dd | fail) [std, StR.d]
  refine o_call rfl rfl q2 rfl rfl ?_
  simp (config := sc) (disch := first | exact dd | fail) [std]

theorem putKnown (t : List LeaseR) (nt gt : Nat) {fo : Nat} {gl : Nat → Nat} (hnt : nt < fo) (hgt : 0 < gt) (ow : Nat → Bool) : Meets Tryz.prog fo gl 27 [.ptr nt gt 0] [⟨nt, gt, [.d (.slice (t.map LeaseR.d))], fun _ => false⟩] (.d (.slice (t.map LeaseR.d))) (fun _ => false) [⟨nt, gt, [.d (.slice (t.map LeaseR.d))], fun _ => false⟩] := by
  refine Meets.by (by kernel_rfl) Tryz.func27 (by kernel_rfl) rfl [] (by simp) (by kernel_rfl) (by kernel_rfl) (by simp [namesIn, namesL, hgt]) (by simp [namesIn, namesL, hgt]) (by simp [hgt]) ?_
  conv in ccs _ => cbv
  simp (config := sc) (disch := first | exact dd | fail) [std]

theorem cleanKnown (s : StR) (hs : s.t.length ≤ 1000000) {fo : Nat} {gl : Nat → Nat} : Meets Tryz.prog fo gl 18 [.cptr (cells s.d)] [] (.d (.slice (s.t.map LeaseR.d))) (fun _ => false) [] := by
  refine Meets.by (by kernel_rfl) Tryz.func18 (by kernel_rfl) rfl [] (by simp) (by kernel_rfl) (by kernel_rfl) (by simp [namesIn, namesL]) (by simp [namesIn, namesL]) (by simp) ?_
  conv in ccs _ => cbv
  simp (config := sc) (disch := first | exact dd | fail) [std]

theorem storeDoP (s : StR) (hk : okK s.k) (hst : s.t.length ≤ 1000000) (cs : List ChR) (hcl : cs.length ≤ 1000000) (hc : ∀ c ∈ cs, ChOk c) (t : List LeaseR) (fuel : Int) (nt gt : Nat) {fo : Nat} {gl : Nat → Nat} (hnt : nt < fo) (hgt : 0 < gt) :
    Meets Tryz.prog fo gl 17 [.d s.d, .pa [.d (.slice (cs.map ChR.d)), .fn 27 [.ptr nt gt 0]], .d (.int .i64 fuel)] [⟨nt, gt, [.d (.slice (t.map LeaseR.d))], fun _ => false⟩]
      (.tup [.d (planS s cs t fuel).1.d, .d (.int .i64 (planS s cs t fuel).2.1), .d (.bool (planS s cs t fuel).2.2)]) (fun _ => false) [⟨nt, gt, [.d (.slice (t.map LeaseR.d))], fun _ => false⟩] := by
  refine Meets.by (by kernel_rfl) Tryz.func17 (by kernel_rfl) rfl [20003, 50028, 3030009, 3011011, 40041] (by simp) (by kernel_rfl) (by kernel_rfl) (by simp [namesIn, namesL, hgt]) (by simp [namesIn, namesL, hgt]) (by simp [hgt]) ?_
  conv in ccs _ => cbv
  have hk1 : ∀ k, (nt = fo + k) = False := fun k => by simp; omega
  have hk2 : ∀ k, (fo + k = nt) = False := fun k => by simp; omega
  have q2 := fun gl => putKnown t nt gt (fo := fo + 1000) (gl := gl) (by omega) hgt (fun _ => false)
  unfold planS
  by_cases hf : fuel < 0
  · simp only [if_pos hf]
    have q1 := journalDo s.k hk cs hcl hc (cs.length : Nat)
    rw [Int.toNat_natCast] at q1
    generalize doS cs cs.length (goodK s.k) = r at *
    by_cases hn : r.2 < cs.length
    · have hn' : (r.2 : Int) < cs.length := by omega
      rw [if_pos hn]
      simp (config := sc) (disch := first | exact dd | fail) [std, StR.d, hk1, hk2, hf]
      refine o_call rfl rfl q1 rfl rfl ?_
      simp (config := sc) (disch := first | exact dd | fail) [std, StR.d, hk1, hk2, hn']
    · have hn' : ¬ (r.2 : Int) < cs.length := by omega
      rw [if_neg hn]
      simp (config := sc) (disch := first | exact dd | fail) [std, StR.d, hk1, hk2, hf]
      refine o_call rfl rfl q1 rfl rfl ?_
      simp (config := sc) (disch := first | exact dd | fail) [std, StR.d, hk1, hk2, hn']
      refine o_cb (fo + 1000) rfl rfl (q2 _) rfl (by simp (config := sc) (disch := first | exact dd | fail) [std, hk1, hk2, hgt]) ?_
      simp (config := sc) (disch := first | exact dd | fail) [std, StR.d, hk1, hk2, hn']
  · simp only [if_neg hf]
    have q1 := journalDo s.k hk cs hcl hc fuel
    generalize doS cs fuel.toNat (goodK s.k) = r at *
    by_cases hn : r.2 < cs.length
    · have hn' : (r.2 : Int) < cs.length := by omega
      rw [if_pos hn]
      simp (config := sc) (disch := first | exact dd | fail) [std, StR.d, hk1, hk2, hf]
      refine o_call rfl rfl q1 rfl rfl ?_
      simp (config := sc) (disch := first | exact dd | fail) [std, StR.d, hk1, hk2, hn']
    · have hn' : ¬ (r.2 : Int) < cs.length := by omega
      rw [if_neg hn]
      simp (config := sc) (disch := first | exact dd | fail) [std, StR.d, hk1, hk2, hf]
      refine o_call rfl rfl q1 rfl rfl ?_
      simp (config := sc) (disch := first | exact dd | fail) [std, StR.d, hk1, hk2, hn']
      refine o_cb (fo + 1000) rfl rfl (q2 _) rfl (by simp (config := sc) (disch := first | exact dd | fail) [std, hk1, hk2, hgt]) ?_
      simp (config := sc) (disch := first | exact dd | fail) [std, StR.d, hk1, hk2, hn']

theorem storeDoC (s : StR) (hk : okK s.k) (hst : s.t.length ≤ 1000000) (cs : List ChR) (hcl : cs.length ≤ 1000000) (hc : ∀ c ∈ cs, ChOk c) (fuel : Int) {fo : Nat} {gl : Nat → Nat} :
    Meets Tryz.prog fo gl 17 [.d s.d, .pa [.d (.slice (cs.map ChR.d)), .fn 18 [.cptr (cells s.d)]], .d (.int .i64 fuel)] []
      (.tup [.d (planS s cs s.t fuel).1.d, .d (.int .i64 (planS s cs s.t fuel).2.1), .d (.bool (planS s cs s.t fuel).2.2)]) (fun _ => false) [] := by
  refine Meets.by (by kernel_rfl) Tryz.func17 (by kernel_rfl) rfl [20003, 50028, 3030009, 3011011, 40041] (by simp) (by kernel_rfl) (by kernel_rfl) (by simp [namesIn, namesL]) (by simp [namesIn, namesL]) (by simp) ?_
  conv in ccs _ => cbv
  have q2 := fun gl => cleanKnown s hst (fo := fo + 1000) (gl := gl)
  unfold planS
  by_cases hf : fuel < 0
  · simp only [if_pos hf]
    have q1 := journalDo s.k hk cs hcl hc (cs.length : Nat)
    rw [Int.toNat_natCast] at q1
    generalize doS cs cs.length (goodK s.k) = r at *
    by_cases hn : r.2 < cs.length
    · have hn' : (r.2 : Int) < cs.length := by omega
      rw [if_pos hn]
      simp (config := sc) (disch := first | exact dd | fail) [std, StR.d, hf]
      refine o_call rfl rfl q1 rfl rfl ?_
      simp (config := sc) (disch := first | exact dd | fail) [std, StR.d, hn']
    · have hn' : ¬ (r.2 : Int) < cs.length := by omega
      rw [if_neg hn]
      simp (config := sc) (disch := first | exact dd | fail) [std, StR.d, hf]
      refine o_call rfl rfl q1 rfl rfl ?_
      simp (config := sc) (disch := first | exact dd | fail) [std, StR.d, hn']
      refine o_cb (fo + 1000) rfl rfl (q2 _) rfl (by simp (config := sc) (disch := first | exact dd | fail) [std]) ?_
      simp (config := sc) (disch := first | exact dd | fail) [std, StR.d, hn']
  · simp only [if_neg hf]
    have q1 := journalDo s.k hk cs hcl hc fuel
    generalize doS cs fuel.toNat (goodK s.k) = r at *
    by_cases hn : r.2 < cs.length
    · have hn' : (r.2 : Int) < cs.length := by omega
      rw [if_pos hn]
      simp (config := sc) (disch := first | exact dd | fail) [std, StR.d, hf]
      refine o_call rfl rfl q1 rfl rfl ?_
      simp (config := sc) (disch := first | exact dd | fail) [std, StR.d, hn']
    · have hn' : ¬ (r.2 : Int) < cs.length := by omega
      rw [if_neg hn]
      simp (config := sc) (disch := first | exact dd | fail) [std, StR.d, hf]
      refine o_call rfl rfl q1 rfl rfl ?_
      simp (config := sc) (disch := first | exact dd | fail) [std, StR.d, hn']
      refine o_cb (fo + 1000) rfl rfl (q2 _) rfl (by simp (config := sc) (disch := first | exact dd | fail) [std]) ?_
      simp (config := sc) (disch := first | exact dd | fail) [std, StR.d, hn']

theorem storePut (s : StR) (hk : okK s.k) (ht : TOk s.t) (l : LeaseR) (hl : l.key.length ≤ 1000000) (fuel : Int) :
    Holds Tryz.prog 12 [.d s.d, .d l.d, .d (.int .i64 fuel)] (.tup [.d (putT s l fuel).1.d, .d (.int .i64 (putT s l fuel).2.1), .d (.bool (putT s l fuel).2.2)]) (fun _ => false) := by
  refine Holds.by (by kernel_rfl) Tryz.func12 (by kernel_rfl) rfl [20003, 20004, 40039] (by simp) (by kernel_rfl) (by kernel_rfl) rfl ?_
  conv in ccs _ => cbv
  have q1 := tableSet s.t l ht.1 (fun l hl => by have := ht.2 l hl; omega) (by omega)
  have q2 := journalAdd s.k hk l (by omega)
  obtain ⟨f1, f2⟩ := add_few s.k l
  unfold putT
  generalize setT s.t l = a at *
  generalize addJ s.k l = b at *
  obtain ⟨t, e⟩ := a
  obtain ⟨cs, f⟩ := b
  dsimp only at q1 q2 f1 f2 ⊢
  by_cases he : e = 0
  · by_cases hf : f = 0
    · rw [if_neg (by omega)]
      have q3 := fun gl => storeDoP s hk ht.1 cs (by omega) f2 t fuel (FO + 9) 1 (fo := FO + 1000) (gl := gl) (by omega) (by omega)
      generalize planS s cs t fuel = p at *
      simp (config := sc) (disch := first | exact dd | fail) [std, StR.d]
      refine o_call rfl rfl q1 rfl rfl ?_
      simp (config := sc) (disch := first | exact dd | fail) [std, he]
      refine o_call rfl rfl q2 rfl rfl ?_
      simp (config := sc) (disch := first | exact dd | fail) [std, he, hf]
      refine o_cb (FO + 1000) rfl rfl (q3 _) rfl (by simp (config := sc) (disch := first | exact dd | fail) [std]) ?_
      simp (config := sc) (disch := first | exact dd | fail) [std, StR.d]
    · rw [if_pos (.inr hf)]
      simp (config := sc) (disch := first | exact dd | fail) [std, StR.d]
      refine o_call rfl rfl q1 rfl rfl ?_
      simp (config := sc) (disch := first | exact dd | fail) [std, he]
      refine o_call rfl rfl q2 rfl rfl ?_
      simp (config := sc) (disch := first | exact dd | fail) [std, he, hf, StR.d]
  · rw [if_pos (.inl he)]
    simp (config := sc) (disch := first | exact dd | fail) [std, StR.d]
    refine o_call rfl rfl q1 rfl rfl ?_
    simp (config := sc) (disch := first | exact dd | fail) [std, he]
    refine o_call rfl rfl q2 rfl rfl ?_
    simp (config := sc) (disch := first | exact dd | fail) [std, he, StR.d]

theorem storeClean (s : StR) (hk : okK s.k) (ht : TOk s.t) (hm : s.t.length ≤ 100000) (many fuel : Int) :
    Holds Tryz.prog 6 [.d s.d, .d (.int .i64 many), .d (.int .i64 fuel)] (.tup [.d (cleanT s many fuel).1.d, .d (.int .i64 (cleanT s many fuel).2.1), .d (.bool (cleanT s many fuel).2.2)]) (fun _ => false) := by
  refine Holds.by (by kernel_rfl) Tryz.func6 (by kernel_rfl) rfl [20003, 40033] (by simp) (by kernel_rfl) (by kernel_rfl) rfl ?_
  conv in ccs _ => cbv
  have hf := read_few s.k
  have q1 := cleanDue s.k hk many hf
  have q2 := cleanChanges s.k hk s.t hm ht.2
  obtain ⟨f1, f2⟩ := changes_few s.k s.t
  unfold cleanT
  generalize changesC s.k s.t = a at *
  obtain ⟨cs, e⟩ := a
  dsimp only at q2 f1 f2 ⊢
  cases hd : dueJ s.k many with
  | false =>
    rw [hd] at q1
    rw [if_pos rfl]
    simp (config := sc) (disch := first | exact dd | fail) [std, StR.d]
    refine o_call rfl rfl q1 rfl rfl ?_
    simp (config := sc) (disch := first | exact dd | fail) [std, StR.d]
  | true =>
    rw [hd] at q1
    rw [if_neg (by simp)]
    by_cases he : e = 0
    · rw [if_neg (fun h => h he)]
      have q3 := fun gl => storeDoC s hk ht.1 cs (by omega) f2 fuel (fo := FO + 1000) (gl := gl)
      generalize planS s cs s.t fuel = p at *
      simp (config := sc) (disch := first | exact dd | fail) [std, StR.d]
      refine o_call rfl rfl q1 rfl rfl ?_
      simp (config := sc) (disch := first | exact dd | fail) [std]
      refine o_call rfl rfl q2 rfl rfl ?_
      simp (config := sc) (disch := first | exact dd | fail) [std, he]
      refine o_cb (FO + 1000) rfl rfl (q3 _) rfl (by simp (config := sc) (disch := first | exact dd | fail) [std]) ?_
      simp (config := sc) (disch := first | exact dd | fail) [std, StR.d]
    · rw [if_pos he]
      simp (config := sc) (disch := first | exact dd | fail) [std, StR.d]
      refine o_call rfl rfl q1 rfl rfl ?_
      simp (config := sc) (disch := first | exact dd | fail) [std]
      refine o_call rfl rfl q2 rfl rfl ?_
      simp (config := sc) (disch := first | exact dd | fail) [std, he, StR.d]

end Go.Proofs.YtkbidfohcanijaaGreat
