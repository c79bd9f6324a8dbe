/- Journals, third part: changes; what the program answers. -/
import Derived.Test.YtkbidfohcanijaaGreatJrn
namespace Go.Proofs.YtkbidfohcanijaaGreat
open BoEng Go
set_option maxRecDepth 100000
attribute [-simp] List.map_take List.map_drop List.length_flatMap
set_option linter.unusedSimpArgs false
set_option linter.unusedVariables false

structure ChR where
  kind : Int
  name : List UInt8
  to : List UInt8
  b : List UInt8
  deriving DecidableEq
instance : Inhabited ChR := ⟨⟨0, [], [], []⟩⟩
def ChR.d (c : ChR) : DV := .agg [.int .i64 c.kind, .str c.name, .str c.to, .slice (c.b.map byteD)]
@[simp] theorem cells_ch (c : ChR) : cells c.d = [.int .i64 c.kind, .str c.name, .str c.to, .slice (c.b.map byteD)] := rfl
def ChOk (c : ChR) : Prop := c.name.length ≤ 9223372036854775807 ∧ c.to.length ≤ 9223372036854775807 ∧ c.b.length ≤ 1000000
/-- A change is done. -/
def oneS (c : ChR) (k : Dk) : Dk × Int :=
  if c.kind = 1 then appendS k c.name c.b else if c.kind = 2 then syncS k c.name else if c.kind = 3 then renameS k c.name c.to else if c.kind = 4 then removeS k c.name
  else if c.kind = 5 then (syncDirS k, 0) else (k, 1)
/-- Changes are done, 'n' at most. -/
def doS : List ChR → Nat → Dk → Dk × Nat
  | [], _, k => (k, 0)
  | _, 0, k => (k, 0)
  | c :: l, n + 1, k => if (oneS c k).2 = 0 then ((doS l n (oneS c k).1).1, (doS l n (oneS c k).1).2 + 1) else (k, 0)

theorem chAdd (c : ChR) (hc : ChOk c) (k : Dk) (hk : okK k) : Holds Tryz.prog 88 [.d c.d, .d k.d] (.tup [.d (appendS k c.name c.b).1.d, .d (.int .i64 (appendS k c.name c.b).2)]) (fun _ => false) := by
  refine Holds.by (by kernel_rfl) Tryz.func88 (by kernel_rfl) rfl [20002, 20003] (by simp) (by kernel_rfl) (by kernel_rfl) rfl ?_
  conv in ccs _ => cbv
  have q := diskAppend k hk c.name c.b hc.1 hc.2.2
  generalize appendS k c.name c.b = r at *
  simp (config := sc) (disch := first | exact dd | fail) [std, ChR.d, Dk.d]
  refine o_call rfl rfl q rfl rfl ?_
  simp (config := sc) (disch := first | exact dd | fail) [std, ChR.d, Dk.d]
theorem chSync (c : ChR) (hc : ChOk c) (k : Dk) (hk : okK k) : Holds Tryz.prog 89 [.d c.d, .d k.d] (.tup [.d (syncS k c.name).1.d, .d (.int .i64 (syncS k c.name).2)]) (fun _ => false) := by
  refine Holds.by (by kernel_rfl) Tryz.func89 (by kernel_rfl) rfl [20002, 20003] (by simp) (by kernel_rfl) (by kernel_rfl) rfl ?_
  conv in ccs _ => cbv
  have q := diskSync k hk c.name
  generalize syncS k c.name = r at *
  simp (config := sc) (disch := first | exact dd | fail) [std, ChR.d, Dk.d]
  refine o_call rfl rfl q rfl rfl ?_
  simp (config := sc) (disch := first | exact dd | fail) [std, ChR.d, Dk.d]
theorem chRename (c : ChR) (hc : ChOk c) (k : Dk) (hk : okK k) : Holds Tryz.prog 90 [.d c.d, .d k.d] (.tup [.d (renameS k c.name c.to).1.d, .d (.int .i64 (renameS k c.name c.to).2)]) (fun _ => false) := by
  refine Holds.by (by kernel_rfl) Tryz.func90 (by kernel_rfl) rfl [20002, 20003] (by simp) (by kernel_rfl) (by kernel_rfl) rfl ?_
  conv in ccs _ => cbv
  have q := diskRename k hk c.name c.to hc.2.1
  generalize renameS k c.name c.to = r at *
  simp (config := sc) (disch := first | exact dd | fail) [std, ChR.d, Dk.d]
  refine o_call rfl rfl q rfl rfl ?_
  simp (config := sc) (disch := first | exact dd | fail) [std, ChR.d, Dk.d]
theorem chRemove (c : ChR) (hc : ChOk c) (k : Dk) (hk : okK k) : Holds Tryz.prog 91 [.d c.d, .d k.d] (.tup [.d (removeS k c.name).1.d, .d (.int .i64 (removeS k c.name).2)]) (fun _ => false) := by
  refine Holds.by (by kernel_rfl) Tryz.func91 (by kernel_rfl) rfl [20002, 20003] (by simp) (by kernel_rfl) (by kernel_rfl) rfl ?_
  conv in ccs _ => cbv
  have q := diskRemove k hk c.name
  generalize removeS k c.name = r at *
  simp (config := sc) (disch := first | exact dd | fail) [std, ChR.d, Dk.d]
  refine o_call rfl rfl q rfl rfl ?_
  simp (config := sc) (disch := first | exact dd | fail) [std, ChR.d, Dk.d]
theorem chLast (c : ChR) (hc : ChOk c) (k : Dk) (hk : okK k) : Holds Tryz.prog 92 [.d c.d, .d k.d] (.tup [.d (syncDirS k).d, .d (.int .i64 0)]) (fun _ => false) := by
  refine Holds.by (by kernel_rfl) Tryz.func92 (by kernel_rfl) rfl [20002, 20003] (by simp) (by kernel_rfl) (by kernel_rfl) rfl ?_
  conv in ccs _ => cbv
  have q := diskSyncDir k hk
  generalize syncDirS k = r at *
  simp (config := sc) (disch := first | exact dd | fail) [std, ChR.d, Dk.d]
  refine o_call rfl rfl q rfl rfl ?_
  simp (config := sc) (disch := first | exact dd | fail) [std, ChR.d, Dk.d]

@[simp] theorem isFnT_some {a b : Array TypeId} {v : Bool} : isFnT (some (.func a b v)) = true := rfl
theorem chOne (c : ChR) (hc : ChOk c) (k : Dk) (hk : okK k) : Holds Tryz.prog 65 [.d c.d, .d k.d] (.tup [.d (oneS c k).1.d, .d (.int .i64 (oneS c k).2)]) (fun _ => false) := by
  refine Holds.by (by kernel_rfl) Tryz.func65 (by kernel_rfl) rfl [20002, 20003] (by simp) (by kernel_rfl) (by kernel_rfl) rfl ?_
  conv in ccs _ => cbv
  have q1 := chAdd c hc k hk
  have q2 := chSync c hc k hk
  have q3 := chRename c hc k hk
  have q4 := chRemove c hc k hk
  have q5 := chLast c hc k hk
  unfold oneS
  obtain ⟨ck, cn, ct, cb⟩ := c
  dsimp only [ChR.d, Dk.d] at q1 q2 q3 q4 q5 ⊢
  by_cases h1 : ck = 1
  · subst h1
    rw [if_pos rfl]
    generalize appendS k cn cb = r at *
    simp (config := sc) (disch := first | exact dd | fail) [std, ChR.d, Dk.d]
    refine o_call rfl rfl q1 rfl rfl ?_
    simp (config := sc) (disch := first | exact dd | fail) [std, ChR.d, Dk.d]
  rw [if_neg h1]
  have g1 : (ck == 1) = false := by simpa using h1
  by_cases h2 : ck = 2
  · subst h2
    rw [if_pos rfl]
    generalize syncS k cn = r at *
    simp (config := sc) (disch := first | exact dd | fail) [std, ChR.d, Dk.d]
    refine o_call rfl rfl q2 rfl rfl ?_
    simp (config := sc) (disch := first | exact dd | fail) [std, ChR.d, Dk.d]
  rw [if_neg h2]
  have g2 : (ck == 2) = false := by simpa using h2
  by_cases h3 : ck = 3
  · subst h3
    rw [if_pos rfl]
    generalize renameS k cn ct = r at *
    simp (config := sc) (disch := first | exact dd | fail) [std, ChR.d, Dk.d]
    refine o_call rfl rfl q3 rfl rfl ?_
    simp (config := sc) (disch := first | exact dd | fail) [std, ChR.d, Dk.d]
  rw [if_neg h3]
  have g3 : (ck == 3) = false := by simpa using h3
  by_cases h4 : ck = 4
  · subst h4
    rw [if_pos rfl]
    generalize removeS k cn = r at *
    simp (config := sc) (disch := first | exact dd | fail) [std, ChR.d, Dk.d]
    refine o_call rfl rfl q4 rfl rfl ?_
    simp (config := sc) (disch := first | exact dd | fail) [std, ChR.d, Dk.d]
  rw [if_neg h4]
  have g4 : (ck == 4) = false := by simpa using h4
  by_cases h5 : ck = 5
  · subst h5
    rw [if_pos rfl]
    generalize syncDirS k = r at *
    simp (config := sc) (disch := first | exact dd | fail) [std, ChR.d, Dk.d]
    refine o_call rfl rfl q5 rfl rfl ?_
    simp (config := sc) (disch := first | exact dd | fail) [std, ChR.d, Dk.d]
  rw [if_neg h5]
  have g5 : (ck == 5) = false := by simpa using h5
  simp (config := sc) (disch := first | exact dd | fail) [std, g1, g2, g3, g4, g5, ChR.d, Dk.d]

theorem one_right (c : ChR) {k : Dk} (h : rightK k = true) : rightK (oneS c k).1 = true := by
  unfold oneS
  split
  · exact append_right _ _ _
  split
  · exact sync_right _ _
  split
  · exact rename_right _ _ _
  split
  · exact remove_right _ _
  split
  · exact syncDir_right _
  · exact h
def jdI (k : Dk) (l : List ChR) (fuel : Int) (q : Nat × Dk) (S : PS) : Prop :=
  q.1 ≤ l.length ∧ rightK q.2 = true ∧ doS l fuel.toNat (goodK k) = ((doS (l.drop q.1) (fuel.toNat - q.1) q.2).1, (doS (l.drop q.1) (fuel.toNat - q.1) q.2).2 + q.1) ∧
  S.t 1 = .d (.slice (l.map ChR.d)) ∧ S.t 2 = .d (.int .i64 fuel) ∧ S.t 3 = .ptr (FO + 3) 1 0 ∧ S.t 6 = .ptr (FO + 6) 1 0 ∧ S.t 8 = .d (.int .i64 q.1) ∧ S.fo = FO ∧ S.gen (FO + 3) = 1 ∧ S.box (FO + 3) = (cells q.2.d).map .d ∧ S.gen (FO + 6) = 1 ∧ S.box (FO + 6) = [.d (.slice []), .d (.slice []), .d (.slice [])]
theorem journalDo (k : Dk) (hk : okK k) (l : List ChR) (hl : l.length ≤ 1000000) (hc : ∀ c ∈ l, ChOk c) (fuel : Int) : Holds Tryz.prog 37 [.d k.d, .d (.slice (l.map ChR.d)), .d (.int .i64 fuel)] (.tup [.d (doS l fuel.toNat (goodK k)).1.d, .d (.int .i64 (doS l fuel.toNat (goodK k)).2)]) (fun _ => false) := by
  refine Holds.by (by kernel_rfl) Tryz.func37 (by kernel_rfl) rfl [50025, 50026, 3027003, 3009009] (by simp) (by kernel_rfl) (by kernel_rfl) rfl ?_
  conv in ccs _ => cbv
  have q0 := journalOwn k hk
  have hrg := good_right k
  simp (config := sc) (disch := first | exact dd | fail) [std, Dk.d]
  refine o_call rfl rfl q0 rfl rfl ?_
  simp (config := sc) (disch := first | exact dd | fail) [std, Dk.d]
  refine lp (jdI k l fuel) (fun q => l.length - q.1) (0, goodK k) ⟨by simp, hrg, by simp, by simp, by simp, by simp, by simp, by simp, by simp, by simp, by simp [Dk.d], by simp, by simp⟩ ?_
  clear q0
  rintro ⟨i, x⟩ S ⟨hi, hrx, hd, e1, e2, e3, e6, e8, efo, g3, b3, g6, b6⟩
  dsimp only at hi hrx hd e8 b3
  rw [hd]
  by_cases hlt : i < l.length
  · have k6 : (i : Int) < l.length := by omega
    by_cases hf : (i : Int) < fuel
    · have hdr : l.drop i = l[i] :: l.drop (i + 1) := List.drop_eq_getElem_cons hlt
      have hfn : fuel.toNat - i = (fuel.toNat - (i + 1)) + 1 := by omega
      have q1 := chOne l[i] (hc _ (List.getElem_mem hlt)) x (ok_right hrx)
      have hr1 := one_right l[i] hrx
      rw [hdr, hfn] at hd ⊢
      simp only [doS] at hd ⊢
      generalize oneS l[i] x = r at *
      by_cases he : r.2 = 0
      · rw [if_pos he] at hd ⊢
        simp (config := sc) (disch := first | exact dd | fail) [std, e1, e2, e3, e6, e8, efo, g3, b3, g6, b6, k6, hf]
        refine o_call rfl rfl q1 rfl rfl ?_
        simp (config := sc) (disch := first | exact dd | fail) [std, e1, e2, e3, e6, e8, efo, g3, b3, g6, b6, k6, hf, he]
        exact nxt_of (i + 1, r.1) ⟨by show i + 1 ≤ _; omega, hr1, by rw [hd]; simp; omega, by simp (config := sc) (disch := first | exact dd | fail) [std, e1], by simp (config := sc) (disch := first | exact dd | fail) [std, e2], by simp (config := sc) (disch := first | exact dd | fail) [std, e3], by simp (config := sc) (disch := first | exact dd | fail) [std, e6], by simp, by simp (config := sc) (disch := first | exact dd | fail) [std, efo], by simp (config := sc) (disch := first | exact dd | fail) [std, g3, efo], by simp (config := sc) (disch := first | exact dd | fail) [std, b3, efo], by simp (config := sc) (disch := first | exact dd | fail) [std, g6, efo], by simp (config := sc) (disch := first | exact dd | fail) [std, b6, efo]⟩ (by show l.length - (i + 1) < l.length - i; omega)
      · rw [if_neg he] at hd ⊢
        simp (config := sc) (disch := first | exact dd | fail) [std, e1, e2, e3, e6, e8, efo, g3, b3, g6, b6, k6, hf]
        refine o_call rfl rfl q1 rfl rfl ?_
        simp (config := sc) (disch := first | exact dd | fail) [std, e1, e2, e3, e6, e8, efo, g3, b3, g6, b6, k6, hf, he, Dk.d]
    · have hz : fuel.toNat - i = 0 := by omega
      have hdd : doS (l.drop i) (fuel.toNat - i) x = (x, 0) := by
        rw [hz]
        cases l.drop i <;> rfl
      rw [hdd]
      simp (config := sc) (disch := first | exact dd | fail) [std, e1, e2, e3, e6, e8, efo, g3, b3, g6, b6, k6, hf, Dk.d]
  · have k6 : ¬ (i : Int) < l.length := by omega
    have hdd : doS (l.drop i) (fuel.toNat - i) x = (x, 0) := by
      rw [List.drop_eq_nil_of_le (by omega)]
      rfl
    rw [hdd]
    simp (config := sc) (disch := first | exact dd | fail) [std, e1, e2, e3, e6, e8, efo, g3, b3, g6, b6, k6, Dk.d]

/-- The changes by which a lease is kept. -/
def addJ (k : Dk) (l : LeaseR) : List ChR × Int :=
  if rightL l = false then ([], 1)
  else if (readJ (getS k nJ).1).2.2 = 4 then ([], 7)
  else if (readJ (getS k nJ).1).2.2 ≠ 0 then ([], (readJ (getS k nJ).1).2.2)
  else ([⟨1, nJ, [], frameB (recB l)⟩, ⟨2, nJ, [], []⟩] ++ (if findI (goodK k).now nJ < 0 ∨ findI (goodK k).now nJ ≠ findI (goodK k).kept nJ then [⟨5, [], [], []⟩] else []), 0)
theorem key_len {k : List UInt8} (h : keyR k = true) : k.length ≤ 256 := by
  unfold keyR at h
  split at h
  · cases h
  · split at h
    · simp at h ⊢; omega
    · split at h
      · simp at h ⊢; omega
      · cases h
theorem rec_len {l : LeaseR} (h : rightL l = true) : (recB l).length ≤ 268 ∧ 12 ≤ (recB l).length := by
  have := key_len (right_rng h).2.2.2
  simp [recB, putB_len]
  omega
theorem journalAdd (k : Dk) (hk : okK k) (l : LeaseR) (hl : l.key.length ≤ 1000000) : Holds Tryz.prog 26 [.d k.d, .d l.d] (.tup [.d (.slice ((addJ k l).1.map ChR.d)), .d (.int .i64 (addJ k l).2)]) (fun _ => false) := by
  refine Holds.by (by kernel_rfl) Tryz.func26 (by kernel_rfl) rfl [20003, 55] (by simp) (by kernel_rfl) (by kernel_rfl) rfl ?_
  conv in ccs _ => cbv
  have q1 := recordWrite l hl
  have q2 := journalRead k hk (by have := get_len k [106]; omega)
  have q3 := journalOwn k hk
  have hrg := good_right k
  unfold addJ
  cases hr : rightL l with
  | false =>
    rw [hr] at q1
    rw [if_pos rfl]
    simp (config := sc) (disch := first | exact dd | fail) [std, Dk.d]
    refine o_call rfl rfl q1 rfl rfl ?_
    simp (config := sc) (disch := first | exact dd | fail) [std, Dk.d]
  | true =>
    rw [hr] at q1
    simp only [if_true] at q1
    rw [if_neg (by simp)]
    have hrl := rec_len hr
    have q4 := codeFrame (recB l) (by omega)
    generalize frameB (recB l) = fb at *
    generalize recB l = rb at *
    generalize readJ (getS k nJ).1 = r at *
    obtain ⟨ls, n, e⟩ := r
    dsimp only at q2 ⊢
    by_cases h4 : e = 4
    · rw [if_pos h4]
      simp (config := sc) (disch := first | exact dd | fail) [std, Dk.d]
      refine o_call rfl rfl q1 rfl rfl ?_
      simp (config := sc) (disch := first | exact dd | fail) [std, Dk.d]
      refine o_call rfl rfl q2 rfl rfl ?_
      simp (config := sc) (disch := first | exact dd | fail) [std, h4]
    rw [if_neg h4]
    by_cases h0 : e = 0
    · rw [if_neg (fun h => h h0)]
      generalize goodK k = d at *
      have hlens := right_lens hrg
      have q5 := journalFile d.now nJ (by omega)
      have q6 := journalFile d.kept nJ (by omega)
      have hdd : ∀ d : Dk, d.d = .agg [.slice (d.files.map FileD.d), .slice (d.now.map Ent.d), .slice (d.kept.map Ent.d)] := fun _ => rfl
      generalize findI d.now nJ = x at *
      generalize findI d.kept nJ = y at *
      by_cases hx : x < 0
      · rw [if_pos (.inl hx)]
        simp (config := sc) (disch := first | exact dd | fail) [std, Dk.d]
        refine o_call rfl rfl q1 rfl rfl ?_
        simp (config := sc) (disch := first | exact dd | fail) [std, Dk.d]
        refine o_call rfl rfl q2 rfl rfl ?_
        simp (config := sc) (disch := first | exact dd | fail) [std, h4, h0]
        refine o_call rfl rfl q3 rfl rfl ?_
        simp (config := sc) (disch := first | exact dd | fail) [std, hdd]
        refine o_call rfl rfl q4 rfl rfl ?_
        simp (config := sc) (disch := first | exact dd | fail) [std, hdd]
        refine o_call rfl rfl q5 rfl rfl ?_
        simp (config := sc) (disch := first | exact dd | fail) [std, hx, ChR.d]
        done
      · by_cases hy : x = y
        · rw [if_neg (by omega)]
          simp (config := sc) (disch := first | exact dd | fail) [std, Dk.d]
          refine o_call rfl rfl q1 rfl rfl ?_
          simp (config := sc) (disch := first | exact dd | fail) [std, Dk.d]
          refine o_call rfl rfl q2 rfl rfl ?_
          simp (config := sc) (disch := first | exact dd | fail) [std, h4, h0]
          refine o_call rfl rfl q3 rfl rfl ?_
          simp (config := sc) (disch := first | exact dd | fail) [std, hdd]
          refine o_call rfl rfl q4 rfl rfl ?_
          simp (config := sc) (disch := first | exact dd | fail) [std, hdd]
          refine o_call rfl rfl q5 rfl rfl ?_
          simp (config := sc) (disch := first | exact dd | fail) [std, hx]
          refine o_call rfl rfl q6 rfl rfl ?_
          simp (config := sc) (disch := first | exact dd | fail) [std, hx, hy, ChR.d]
          done
        · rw [if_pos (.inr hy)]
          simp (config := sc) (disch := first | exact dd | fail) [std, Dk.d]
          refine o_call rfl rfl q1 rfl rfl ?_
          simp (config := sc) (disch := first | exact dd | fail) [std, Dk.d]
          refine o_call rfl rfl q2 rfl rfl ?_
          simp (config := sc) (disch := first | exact dd | fail) [std, h4, h0]
          refine o_call rfl rfl q3 rfl rfl ?_
          simp (config := sc) (disch := first | exact dd | fail) [std, hdd]
          refine o_call rfl rfl q4 rfl rfl ?_
          simp (config := sc) (disch := first | exact dd | fail) [std, hdd]
          refine o_call rfl rfl q5 rfl rfl ?_
          simp (config := sc) (disch := first | exact dd | fail) [std, hx]
          refine o_call rfl rfl q6 rfl rfl ?_
          simp (config := sc) (disch := first | exact dd | fail) [std, hx, hy, ChR.d]
          done
    · rw [if_pos h0]
      simp (config := sc) (disch := first | exact dd | fail) [std, Dk.d]
      refine o_call rfl rfl q1 rfl rfl ?_
      simp (config := sc) (disch := first | exact dd | fail) [std, Dk.d]
      refine o_call rfl rfl q2 rfl rfl ?_
      simp (config := sc) (disch := first | exact dd | fail) [std, h4, h0]

end Go.Proofs.YtkbidfohcanijaaGreat
