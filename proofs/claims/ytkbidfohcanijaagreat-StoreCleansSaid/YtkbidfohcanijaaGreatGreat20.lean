/- The journal is made short: what the document answers, walked; the law of chapter 20 about it. -/
import Derived.Test.YtkbidfohcanijaaGreatStore
namespace Go.Proofs.YtkbidfohcanijaaGreat
open BoEng Go
set_option maxRecDepth 100000
attribute [-simp] List.map_take List.map_drop List.length_flatMap
set_option linter.unusedSimpArgs false
set_option linter.unusedVariables false

theorem ref10One (k : Dk) (hk : okK k) (c : ChR) (hc : ChOk c) : Holds Tryz.prog 44 [.d k.d, .d c.d] (.tup [.d (oneS c k).1.d, .d (.int .i64 (oneS c k).2)]) (fun _ => false) := by
  refine Holds.by (by kernel_rfl) Tryz.func44 (by kernel_rfl) rfl [20002, 20003] (by simp) (by kernel_rfl) (by kernel_rfl) rfl ?_
  conv in ccs _ => cbv
  have q1 := ref08Append k hk c.name c.b hc.1 hc.2.2
  have q2 := ref08Sync k hk c.name
  have q3 := ref08Rename k hk c.name c.to hc.2.1
  have q4 := ref08Remove k hk c.name
  have q5 := ref08SyncDir k hk
  unfold oneS
  generalize appendS k c.name c.b = r1 at *
  generalize syncS k c.name = r2 at *
  generalize renameS k c.name c.to = r3 at *
  generalize removeS k c.name = r4 at *
  generalize syncDirS k = r5 at *
  by_cases h1 : c.kind = 1
  · rw [if_pos h1]
    simp (config := sc) (disch := first | exact dd | fail) [std, ChR.d, Dk.d, h1]
    refine o_call rfl rfl q1 rfl rfl ?_
    simp (config := sc) (disch := first | exact dd | fail) [std, ChR.d, Dk.d, h1]
  rw [if_neg h1]
  by_cases h2 : c.kind = 2
  · rw [if_pos h2]
    simp (config := sc) (disch := first | exact dd | fail) [std, ChR.d, Dk.d, h2]
    refine o_call rfl rfl q2 rfl rfl ?_
    simp (config := sc) (disch := first | exact dd | fail) [std, ChR.d, Dk.d, h2]
  rw [if_neg h2]
  by_cases h3 : c.kind = 3
  · rw [if_pos h3]
    simp (config := sc) (disch := first | exact dd | fail) [std, ChR.d, Dk.d, h3]
    refine o_call rfl rfl q3 rfl rfl ?_
    simp (config := sc) (disch := first | exact dd | fail) [std, ChR.d, Dk.d, h3]
  rw [if_neg h3]
  by_cases h4 : c.kind = 4
  · rw [if_pos h4]
    simp (config := sc) (disch := first | exact dd | fail) [std, ChR.d, Dk.d, h4]
    refine o_call rfl rfl q4 rfl rfl ?_
    simp (config := sc) (disch := first | exact dd | fail) [std, ChR.d, Dk.d, h4]
  rw [if_neg h4]
  by_cases h5 : c.kind = 5
  · rw [if_pos h5]
    simp (config := sc) (disch := first | exact dd | fail) [std, ChR.d, Dk.d, h5]
    refine o_call rfl rfl q5 rfl rfl ?_
    simp (config := sc) (disch := first | exact dd | fail) [std, ChR.d, Dk.d, h5]
  rw [if_neg h5]
  simp (config := sc) (disch := first | exact dd | fail) [std, ChR.d, Dk.d, h1, h2, h3, h4, h5]

def rdI (k : Dk) (l : List ChR) (fuel : Int) (q : Nat × Dk) (S : PS) : Prop :=
  q.1 ≤ l.length ∧ rightK q.2 = true ∧ doS l fuel.toNat (goodK k) = ((doS (l.drop q.1) (fuel.toNat - q.1) q.2).1, (doS (l.drop q.1) (fuel.toNat - q.1) q.2).2 + q.1) ∧
  S.t 1 = .d (.slice (l.map ChR.d)) ∧ S.t 2 = .d (.int .i64 fuel) ∧ S.t 3 = .ptr (FO + 3) 1 0 ∧ S.t 6 = .ptr (FO + 6) 1 0 ∧ S.t 8 = .d (.int .i64 q.1) ∧ S.fo = FO ∧ S.gen (FO + 3) = 1 ∧ S.box (FO + 3) = (cells q.2.d).map .d ∧ S.gen (FO + 6) = 1 ∧ S.box (FO + 6) = [.d (.slice []), .d (.slice []), .d (.slice [])]
theorem ref10Do (k : Dk) (hk : okK k) (l : List ChR) (hl : l.length ≤ 1000000) (hc : ∀ c ∈ l, ChOk c) (fuel : Int) : Holds Tryz.prog 21 [.d k.d, .d (.slice (l.map ChR.d)), .d (.int .i64 fuel)] (.tup [.d (doS l fuel.toNat (goodK k)).1.d, .d (.int .i64 (doS l fuel.toNat (goodK k)).2)]) (fun _ => false) := by
  refine Holds.by (by kernel_rfl) Tryz.func21 (by kernel_rfl) rfl [50028, 50029, 3025003, 3009009] (by simp) (by kernel_rfl) (by kernel_rfl) rfl ?_
  conv in ccs _ => cbv
  have q0 := ref08Good k hk.1 (by have := hk.2; omega)
  have hrg := good_right k
  simp (config := sc) (disch := first | exact dd | fail) [std, Dk.d]
  refine o_call rfl rfl q0 rfl rfl ?_
  simp (config := sc) (disch := first | exact dd | fail) [std, Dk.d]
  refine lp (rdI k l fuel) (fun q => l.length - q.1) (0, goodK k) ⟨by simp, hrg, by simp, by simp, by simp, by simp, by simp, by simp, by simp, by simp, by simp [Dk.d], by simp, by simp⟩ ?_
  clear q0
  rintro ⟨i, x⟩ S ⟨hi, hrx, hd, e1, e2, e3, e6, e8, efo, g3, b3, g6, b6⟩
  dsimp only at hi hrx hd e8 b3
  rw [hd]
  by_cases hlt : i < l.length
  · have k6 : (i : Int) < l.length := by omega
    have hn : nth l (i : Int) = l[i] := nth_nat hlt
    by_cases hf : (i : Int) < fuel
    · have hdr : l.drop i = l[i] :: l.drop (i + 1) := List.drop_eq_getElem_cons hlt
      have hf' : ¬ fuel ≤ (i : Int) := by omega
      have hfn : fuel.toNat - i = (fuel.toNat - (i + 1)) + 1 := by omega
      have q1 := ref10One x (ok_right hrx) l[i] (hc _ (List.getElem_mem hlt))
      have hr1 := one_right l[i] hrx
      rw [hdr, hfn] at hd ⊢
      simp only [doS] at hd ⊢
      generalize oneS l[i] x = r at *
      by_cases he : r.2 = 0
      · rw [if_pos he] at hd ⊢
        simp (config := sc) (disch := first | exact dd | fail) [std, e1, e2, e3, e6, e8, efo, g3, b3, g6, b6, k6, hf', hn]
        refine o_call rfl rfl q1 rfl rfl ?_
        simp (config := sc) (disch := first | exact dd | fail) [std, e1, e2, e3, e6, e8, efo, g3, b3, g6, b6, k6, hf', he]
        exact nxt_of (i + 1, r.1) ⟨by show i + 1 ≤ _; omega, hr1, by rw [hd]; simp; omega, by simp (config := sc) (disch := first | exact dd | fail) [std, e1], by simp (config := sc) (disch := first | exact dd | fail) [std, e2], by simp (config := sc) (disch := first | exact dd | fail) [std, e3], by simp (config := sc) (disch := first | exact dd | fail) [std, e6], by simp, by simp (config := sc) (disch := first | exact dd | fail) [std, efo], by simp (config := sc) (disch := first | exact dd | fail) [std, g3, efo], by simp (config := sc) (disch := first | exact dd | fail) [std, b3, efo], by simp (config := sc) (disch := first | exact dd | fail) [std, g6, efo], by simp (config := sc) (disch := first | exact dd | fail) [std, b6, efo]⟩ (by show l.length - (i + 1) < l.length - i; omega)
      · rw [if_neg he] at hd ⊢
        simp (config := sc) (disch := first | exact dd | fail) [std, e1, e2, e3, e6, e8, efo, g3, b3, g6, b6, k6, hf', hn]
        refine o_call rfl rfl q1 rfl rfl ?_
        simp (config := sc) (disch := first | exact dd | fail) [std, e1, e2, e3, e6, e8, efo, g3, b3, g6, b6, k6, hf', he, Dk.d]
    · have hz : fuel.toNat - i = 0 := by omega
      have hf' : fuel ≤ (i : Int) := by omega
      have hdd : doS (l.drop i) (fuel.toNat - i) x = (x, 0) := by
        rw [hz]
        cases l.drop i <;> rfl
      rw [hdd]
      simp (config := sc) (disch := first | exact dd | fail) [std, e1, e2, e3, e6, e8, efo, g3, b3, g6, b6, k6, hf', Dk.d]
  · have k6 : ¬ (i : Int) < l.length := by omega
    have e : i = l.length := by omega
    have hdd : doS (l.drop i) (fuel.toNat - i) x = (x, 0) := by
      rw [List.drop_eq_nil_of_le (by omega)]
      rfl
    rw [hdd]
    subst e
    simp (config := sc) (disch := first | exact dd | fail) [std, e1, e2, e3, e6, e8, efo, g3, b3, g6, b6, k6, Dk.d]

def rw9I (l : LeaseR) (p : List UInt8) (i : Nat) (S : PS) : Prop :=
  i ≤ l.key.length ∧ S.t 1 = .cptr (cells l.d) ∧ S.t 3 = .d (.slice ((p ++ l.key.take i).map byteD)) ∧ S.own (.t 3 0) = true ∧ S.t 4 = .d (.int .i64 i)
theorem ref09Write (l : LeaseR) (hr : rightL l = true) (hk : l.key.length ≤ 1000000) : Holds Tryz.prog 72 [.d l.d] (.d (.slice ((recB l).map byteD))) (fun _ => false) := by
  refine Holds.by (by kernel_rfl) Tryz.func72 (by kernel_rfl) rfl [20001, 10, 16, 28] (by simp) (by kernel_rfl) (by kernel_rfl) rfl ?_
  conv in ccs _ => cbv
  obtain ⟨⟨a0, a1⟩, ⟨s0, s1⟩, ⟨e0, e1⟩, _⟩ := right_rng hr
  obtain ⟨a, ha⟩ := Int.eq_ofNat_of_zero_le a0
  obtain ⟨st, hs⟩ := Int.eq_ofNat_of_zero_le (show 0 ≤ l.state by omega)
  obtain ⟨ex, he⟩ := Int.eq_ofNat_of_zero_le e0
  have q1 := ref02Put 4 a (by omega) (by omega)
  have q3 := ref02Put 7 ex (by omega) (by omega)
  have hb := byte_mod st
  rw [show st % 256 = st from Nat.mod_eq_of_lt (by omega)] at hb
  have p1 : putB st 1 = [UInt8.ofNat st] := by
    show putB (st / 256) 0 ++ [UInt8.ofNat (st % 256)] = _
    rw [show st % 256 = st from Nat.mod_eq_of_lt (by omega)]
    rfl
  have l1 := putB_len a 4
  have l3 := putB_len ex 7
  have hrec : recB l = (putB a 4 ++ [UInt8.ofNat st] ++ putB ex 7) ++ l.key := by
    unfold recB
    rw [ha, hs, he]
    simp only [Int.toNat_natCast, p1]
  rw [hrec]
  generalize putB a 4 = A at *
  generalize putB ex 7 = X at *
  have hd : l.d = .agg [.int .i64 (a : Int), .int .i64 (st : Int), .int .i64 (ex : Int), .str l.key] := by simp [LeaseR.d, ha, hs, he]
  rw [hd]
  generalize hU : UInt8.ofNat st = U at *
  have hbd : DV.int .u8 (U.toNat : Int) = byteD U := rfl
  simp (config := sc) (disch := first | exact dd | fail) [std]
  refine o_call rfl rfl q1 rfl rfl ?_
  simp (config := sc) (disch := first | exact dd | fail) [std, hb]
  refine o_call rfl rfl q3 rfl rfl ?_
  simp (config := sc) (disch := first | exact dd | fail) [std, hb]
  refine lp (rw9I l (A ++ [U] ++ X)) (fun i => l.key.length - i) 0 ⟨by omega, by simp [hd], by simp [byteD], by simp, by simp⟩ ?_
  rintro i S ⟨hi, e1, e3, o3, e4⟩
  rw [hd] at e1
  by_cases hlt : i < l.key.length
  · have k6 : (i : Int) < l.key.length := by omega
    have hn : nth l.key (i : Int) = l.key[i] := nth_nat hlt
    have hti : l.key.take (i + 1) = l.key.take i ++ [l.key[i]] := List.take_succ_eq_append_getElem hlt
    generalize l.key[i] = c at *
    simp (config := sc) (disch := first | exact dd | fail) [std, e1, e3, o3, e4, k6, hn]
    exact nxt_of (i + 1) ⟨by omega, by rw [hd]; simp (config := sc) (disch := first | exact dd | fail) [std, e1], by rw [hti]; simp (config := sc) (disch := first | exact dd | fail) [std, e3, byteD], by simp (config := sc) (disch := first | exact dd | fail) [std, o3], by simp (config := sc) (disch := first | exact dd | fail) [std]⟩ (by omega)
  · have k6 : ¬ (i : Int) < l.key.length := by omega
    have ht : l.key.take i = l.key := List.take_of_length_le (by omega)
    rw [ht] at e3
    clear hb hU p1 hrec hbd q1 q3 ht
    simp (config := sc) (disch := first | exact dd | fail) [std, e1, e3, o3, e4, k6]

def rbI (ls : List LeaseR) (i : Nat) (S : PS) : Prop :=
  i ≤ ls.length ∧ S.t 0 = .d (.slice (ls.map LeaseR.d)) ∧ S.t 3 = .d (.slice ((bytesL (ls.take i)).map byteD)) ∧ S.own (.t 3 0) = true ∧ S.t 4 = .d (.int .i64 i)
theorem recB_len {l : LeaseR} : (recB l).length = 12 + l.key.length := by
  unfold recB
  simp only [List.length_append, putB_len]
theorem frameB_len {b : List UInt8} : (frameB b).length = 6 + b.length := by
  unfold frameB
  simp only [List.length_append, putB_len]
theorem ref11Bytes (ls : List LeaseR) (hl : ls.length ≤ 1000) (hr : ∀ l ∈ ls, rightL l = true) : Holds Tryz.prog 41 [.d (.slice (ls.map LeaseR.d))] (.d (.slice ((bytesL ls).map byteD))) (fun _ => false) := by
  refine Holds.by (by kernel_rfl) Tryz.func41 (by kernel_rfl) rfl [11] (by simp) (by kernel_rfl) (by kernel_rfl) rfl ?_
  conv in ccs _ => cbv
  simp (config := sc) (disch := first | exact dd | fail) [std]
  refine lp (rbI ls) (fun i => ls.length - i) 0 ⟨by omega, by simp, by simp [bytesL], by simp, by simp⟩ ?_
  rintro i S ⟨hi, e0, e3, o3, e4⟩
  by_cases hlt : i < ls.length
  · have k6 : (i : Int) < ls.length := by omega
    have hn : nth ls (i : Int) = ls[i] := nth_nat hlt
    have hti : ls.take (i + 1) = ls.take i ++ [ls[i]] := List.take_succ_eq_append_getElem hlt
    have hri := hr _ (List.getElem_mem hlt)
    have hkl := key_len (right_rng hri).2.2.2
    have q1 := ref09Write ls[i] hri (by omega)
    have q2 := ref02Frame (recB ls[i]) (by rw [recB_len]; omega)
    have hb := bytes_few (ls := ls.take i) (fun l hl => hr l (List.mem_of_mem_take hl))
    have hbn : (frameB (recB ls[i])).length ≤ 1000000 := by rw [frameB_len, recB_len]; omega
    simp only [List.length_take] at hb
    have hsn := bytesL_snoc (ls.take i) ls[i]
    rw [← hti] at hsn
    clear hti
    generalize bytesL (ls.take i) = B at *
    generalize hx : ls[i] = x at *
    generalize frameB (recB x) = F at *
    simp (config := sc) (disch := first | exact dd | fail) [std, e0, e3, o3, e4, k6, hn]
    refine o_call rfl rfl q1 rfl rfl ?_
    simp (config := sc) (disch := first | exact dd | fail) [std, e0, e3, o3, e4]
    refine o_call rfl rfl q2 rfl rfl ?_
    simp (config := sc) (disch := first | exact dd | fail) [std, e0, e3, o3, e4]
    exact nxt_of (i + 1) ⟨by omega, by simp (config := sc) (disch := first | exact dd | fail) [std, e0], by rw [hsn]; simp (config := sc) (disch := first | exact dd | fail) [std, e3], by simp (config := sc) (disch := first | exact dd | fail) [std, o3], by simp (config := sc) (disch := first | exact dd | fail) [std]⟩ (by omega)
  · have k6 : ¬ (i : Int) < ls.length := by omega
    have ht : ls.take i = ls := List.take_of_length_le (by omega)
    rw [ht] at e3
    simp (config := sc) (disch := first | exact dd | fail) [std, e0, e3, o3, e4, k6]

def rc11I (k : Dk) (ls : List LeaseR) (i : Nat) (S : PS) : Prop :=
  i ≤ ls.length ∧ (ls.take i).all rightL = true ∧ S.t 1 = .d (.slice (ls.map LeaseR.d)) ∧ S.t 2 = .cptr (cells k.d) ∧ S.t 6 = .d (.int .i64 i)
theorem ref11Changes (k : Dk) (hk : okK k) (ls : List LeaseR) (hl : ls.length ≤ 1000) (hkl : ∀ l ∈ ls, l.key.length ≤ 1000000) :
    Holds Tryz.prog 20 [.d k.d, .d (.slice (ls.map LeaseR.d))] (.tup [.d (.slice ((changesC k ls).1.map ChR.d)), .d (.int .i64 (changesC k ls).2)]) (fun _ => false) := by
  refine Holds.by (by kernel_rfl) Tryz.func20 (by kernel_rfl) rfl [20002, 35, 39, 44, 48, 52] (by simp) (by kernel_rfl) (by kernel_rfl) rfl ?_
  conv in ccs _ => cbv
  simp (config := sc) (disch := first | exact dd | fail) [std, Dk.d]
  refine lp (rc11I k ls) (fun i => ls.length - i) 0 ⟨by omega, by simp, by simp, by simp [Dk.d], by simp⟩ ?_
  rintro i S ⟨hi, ha, e1, e2, e6⟩
  by_cases hlt : i < ls.length
  · have k6 : (i : Int) < ls.length := by omega
    have hn : nth ls (i : Int) = ls[i] := nth_nat hlt
    have hky := hkl _ (List.getElem_mem hlt)
    have q := ref09Right ls[i] (by omega)
    cases hr : rightL ls[i] with
    | false =>
      rw [hr] at q
      have hz : changesC k ls = ([], 1) := by
        unfold changesC
        rw [if_pos (all_bad (p := rightL) hlt hr)]
      rw [hz]
      generalize ls[i] = x at *
      simp (config := sc) (disch := first | exact dd | fail) [std, e1, e2, e6, k6, hn]
      refine o_call rfl rfl q rfl rfl ?_
      simp (config := sc) (disch := first | exact dd | fail) [std, e1, e2, e6]
    | true =>
      rw [hr] at q
      have hstep := all_step (p := rightL) hlt ha hr
      generalize ls[i] = x at *
      simp (config := sc) (disch := first | exact dd | fail) [std, e1, e2, e6, k6, hn]
      refine o_call rfl rfl q rfl rfl ?_
      simp (config := sc) (disch := first | exact dd | fail) [std, e1, e2, e6]
      exact nxt_of (i + 1) ⟨by omega, hstep, by simp (config := sc) (disch := first | exact dd | fail) [std, e1], by simp (config := sc) (disch := first | exact dd | fail) [std, e2], by simp (config := sc) (disch := first | exact dd | fail) [std]⟩ (by omega)
  · have k6 : ¬ (i : Int) < ls.length := by omega
    have hal := all_end hlt ha
    have hall := List.all_eq_true.1 hal
    have q1 := ref11Bytes ls hl hall
    have hbf := bytes_few hall
    have q2 := ref08Get k hk [107]
    have hal2 : ¬ ls.all rightL = false := by rw [hal]; decide
    by_cases h2 : 20000 < (bytesL ls).length
    · have h2' : (20000 : Int) < (bytesL ls).length := by omega
      have hz : changesC k ls = ([], 3) := by unfold changesC; rw [if_neg hal2, if_pos h2]
      rw [hz]
      generalize bytesL ls = B at *
      simp (config := sc) (disch := first | exact dd | fail) [std, e1, e2, e6, k6]
      refine o_call rfl rfl q1 rfl rfl ?_
      simp (config := sc) (disch := first | exact dd | fail) [std, e1, e2, e6, h2']
    · have h2' : ¬ (20000 : Int) < (bytesL ls).length := by omega
      have hz : changesC k ls = ((if (getS k [107]).2 = 0 then [⟨4, nK, [], []⟩] else []) ++ putC (bytesL ls), 0) := by unfold changesC; rw [if_neg hal2, if_neg h2]
      rw [hz]
      dsimp only
      clear hz
      generalize bytesL ls = B at *
      generalize getS k [107] = g at *
      by_cases hg : g.2 = 0
      · rw [if_pos hg]
        simp (config := sc) (disch := first | exact dd | fail) [std, e1, e2, e6, k6]
        refine o_call rfl rfl q1 rfl rfl ?_
        simp (config := sc) (disch := first | exact dd | fail) [std, e1, e2, e6, h2']
        refine o_call rfl rfl q2 rfl rfl ?_
        simp (config := sc) (disch := first | exact dd | fail) [std, hg, putC, ChR.d, nK, nJ]
      · rw [if_neg hg]
        simp (config := sc) (disch := first | exact dd | fail) [std, e1, e2, e6, k6]
        refine o_call rfl rfl q1 rfl rfl ?_
        simp (config := sc) (disch := first | exact dd | fail) [std, e1, e2, e6, h2']
        refine o_call rfl rfl q2 rfl rfl ?_
        simp (config := sc) (disch := first | exact dd | fail) [std, hg, putC, ChR.d, nK, nJ]

def smallE (l : LeaseR) : Bool := decide (l.key.length ≤ 1000)
def smallLs (ls : List LeaseR) : Bool := ls.all smallE && decide (ls.length ≤ 200)
def LsOk (ls : List LeaseR) : Prop := ls.length ≤ 9223372036854775807 ∧ ∀ l ∈ ls, l.key.length ≤ 9223372036854775807
def gr12I (ls : List LeaseR) (i : Nat) (S : PS) : Prop :=
  i ≤ ls.length ∧ (ls.take i).all smallE = true ∧ S.t 0 = .d (.slice (ls.map LeaseR.d)) ∧ S.t 3 = .d (.int .i64 i)
theorem great12 (ls : List LeaseR) (hl : LsOk ls) : Holds Tryz.prog 10 [.d (.slice (ls.map LeaseR.d))] (.d (.bool (!smallLs ls))) (fun _ => false) := by
  refine Holds.by (by kernel_rfl) Tryz.func10 (by kernel_rfl) rfl [] (by simp) (by kernel_rfl) (by kernel_rfl) rfl ?_
  conv in ccs _ => cbv
  obtain ⟨h1, h2⟩ := hl
  simp (config := sc) (disch := first | exact dd | fail) [std]
  refine lp (gr12I ls) (fun i => ls.length - i) 0 ⟨by omega, by simp, by simp, by simp⟩ ?_
  rintro i S ⟨hi, ha, e0, e3⟩
  by_cases hlt : i < ls.length
  · have k6 : (i : Int) < ls.length := by omega
    have hn : nth ls (i : Int) = ls[i] := nth_nat hlt
    have hk := h2 _ (List.getElem_mem hlt)
    by_cases hb : ls[i].key.length ≤ 1000
    · have hb' : ¬ (1000 : Int) < ls[i].key.length := by omega
      have hstep := all_step (p := smallE) hlt ha (decide_eq_true hb)
      generalize ls[i] = a at *
      simp (config := sc) (disch := first | exact dd | fail) [std, e0, e3, k6, hn, hb']
      exact nxt_of (i + 1) ⟨by omega, hstep, by simp (config := sc) (disch := first | exact dd | fail) [std, e0], by simp⟩ (by omega)
    · have hb' : (1000 : Int) < ls[i].key.length := by omega
      have hz : (!smallLs ls) = true := by
        have := all_bad (p := smallE) hlt (decide_eq_false hb)
        simp [smallLs, this]
      generalize ls[i] = a at *
      simp (config := sc) (disch := first | exact dd | fail) [std, e0, e3, k6, hn, hb', hz]
  · have k6 : ¬ (i : Int) < ls.length := by omega
    have hal := all_end hlt ha
    by_cases c1 : (200 : Int) < ls.length
    · have hz : smallLs ls = false := by
        rw [Bool.eq_false_iff]
        simp only [smallLs, ne_eq, Bool.and_eq_true, decide_eq_true_eq]
        omega
      simp (config := sc) (disch := first | exact dd | fail) [std, e0, e3, k6, c1, hz]
    · have hz : smallLs ls = true := by
        simp only [smallLs, Bool.and_eq_true, decide_eq_true_eq]
        exact ⟨hal, by omega⟩
      simp (config := sc) (disch := first | exact dd | fail) [std, e0, e3, k6, c1, hz]
theorem small12 {ls : List LeaseR} (h : smallLs ls = true) : ls.length ≤ 200 ∧ ∀ l ∈ ls, l.key.length ≤ 1000 := by
  simp only [smallLs, Bool.and_eq_true, decide_eq_true_eq, List.all_eq_true, smallE] at h
  exact ⟨h.2, h.1⟩

theorem great20 (s : StR) (hs : LsOk s.t) (hk : DkOk s.k) : Holds Tryz.prog 4 [.d s.d, .d (.agg [.int .i64 0, .int .i64 0, .int .i64 0, .str []])] (.d (.bool (!(smallLs s.t && smallK s.k)))) (fun _ => false) := by
  refine Holds.by (by kernel_rfl) Tryz.func4 (by kernel_rfl) rfl [20002, 20003] (by simp) (by kernel_rfl) (by kernel_rfl) rfl ?_
  conv in ccs _ => cbv
  have q1 := great12 s.t hs
  have q2 := great08 s.k hk
  cases h1 : smallLs s.t with
  | false =>
    rw [h1] at q1
    simp (config := sc) (disch := first | exact dd | fail) [std, StR.d]
    refine o_call rfl rfl q1 rfl rfl ?_
    simp (config := sc) (disch := first | exact dd | fail) [std]
  | true =>
    rw [h1] at q1
    cases h2 : smallK s.k with
    | false =>
      rw [h2] at q2
      simp (config := sc) (disch := first | exact dd | fail) [std, StR.d]
      refine o_call rfl rfl q1 rfl rfl ?_
      simp (config := sc) (disch := first | exact dd | fail) [std, Dk.d]
      refine o_call rfl rfl q2 rfl rfl ?_
      simp (config := sc) (disch := first | exact dd | fail) [std]
    | true =>
      rw [h2] at q2
      simp (config := sc) (disch := first | exact dd | fail) [std, StR.d]
      refine o_call rfl rfl q1 rfl rfl ?_
      simp (config := sc) (disch := first | exact dd | fail) [std, Dk.d]
      refine o_call rfl rfl q2 rfl rfl ?_
      simp (config := sc) (disch := first | exact dd | fail) [std]

theorem doS_more : ∀ (cs : List ChR) (n : Nat) (k : Dk), cs.length ≤ n → doS cs n k = doS cs cs.length k
  | [], n, k, _ => by simp [doS]
  | c :: cs, 0, k, h => by simp at h
  | c :: cs, n + 1, k, h => by
    simp only [List.length_cons, doS]
    rw [doS_more cs n _ (by simpa using h)]
theorem doS_le : ∀ (cs : List ChR) (n : Nat) (k : Dk), (doS cs n k).2 ≤ cs.length
  | [], n, k => by simp [doS]
  | c :: cs, 0, k => by simp [doS]
  | c :: cs, n + 1, k => by
    have := doS_le cs n (oneS c k).1
    simp only [List.length_cons, doS]
    split
    · dsimp only; omega
    · dsimp only; omega
theorem ref20Clean (s : StR) (hk : okK s.k) (hm : s.t.length ≤ 1000) (hkl : ∀ l ∈ s.t, l.key.length ≤ 1000000) (many fuel : Int) :
    Holds Tryz.prog 7 [.d s.d, .d (.int .i64 many), .d (.int .i64 fuel)] (.tup [.d (cleanT s many fuel).1.d, .d (.int .i64 (cleanT s many fuel).2.1), .d (.bool (cleanT s many fuel).2.2)]) (fun _ => false) := by
  refine Holds.by (by kernel_rfl) Tryz.func7 (by kernel_rfl) rfl [20003, 3042011, 50041] (by simp) (by kernel_rfl) (by kernel_rfl) rfl ?_
  conv in ccs _ => cbv
  have hf := read_few s.k
  have q1 := ref11Due s.k hk many hf
  have q2 := ref11Changes s.k hk s.t hm hkl
  obtain ⟨f1, f2⟩ := changes_few s.k s.t
  unfold cleanT
  generalize changesC s.k s.t = a at *
  obtain ⟨cs, e⟩ := a
  dsimp only at q2 f1 f2 ⊢
  cases hd : dueJ s.k many with
  | false =>
    rw [hd] at q1
    rw [if_pos rfl]
    simp (config := sc) (disch := first | exact dd | fail) [std, StR.d]
    refine o_call rfl rfl q1 rfl rfl ?_
    simp (config := sc) (disch := first | exact dd | fail) [std, StR.d]
  | true =>
    rw [hd] at q1
    rw [if_neg (by simp)]
    by_cases he : e = 0
    · rw [if_neg (fun h => h he)]
      unfold planS
      by_cases hfu : fuel < 0
      · simp only [if_pos hfu]
        have q3 := ref10Do s.k hk cs (by omega) f2 99
        rw [show (99 : Int).toNat = 99 from rfl, doS_more cs 99 _ (by omega)] at q3
        have hle := doS_le cs cs.length (goodK s.k)
        generalize doS cs cs.length (goodK s.k) = r at *
        by_cases hn : r.2 < cs.length
        · have hn' : ¬ (r.2 : Int) = cs.length := by omega
          rw [if_pos hn]
          simp (config := sc) (disch := first | exact dd | fail) [std, StR.d]
          refine o_call rfl rfl q1 rfl rfl ?_
          simp (config := sc) (disch := first | exact dd | fail) [std]
          refine o_call rfl rfl q2 rfl rfl ?_
          simp (config := sc) (disch := first | exact dd | fail) [std, he, hfu]
          refine o_call rfl rfl q3 rfl rfl ?_
          simp (config := sc) (disch := first | exact dd | fail) [std, StR.d, hn']
        · have hn' : (r.2 : Int) = cs.length := by omega
          rw [if_neg hn]
          simp (config := sc) (disch := first | exact dd | fail) [std, StR.d]
          refine o_call rfl rfl q1 rfl rfl ?_
          simp (config := sc) (disch := first | exact dd | fail) [std]
          refine o_call rfl rfl q2 rfl rfl ?_
          simp (config := sc) (disch := first | exact dd | fail) [std, he, hfu]
          refine o_call rfl rfl q3 rfl rfl ?_
          simp (config := sc) (disch := first | exact dd | fail) [std, StR.d, hn']
      · simp only [if_neg hfu]
        have q3 := ref10Do s.k hk cs (by omega) f2 fuel
        have hle := doS_le cs fuel.toNat (goodK s.k)
        generalize doS cs fuel.toNat (goodK s.k) = r at *
        by_cases hn : r.2 < cs.length
        · have hn' : ¬ (r.2 : Int) = cs.length := by omega
          rw [if_pos hn]
          simp (config := sc) (disch := first | exact dd | fail) [std, StR.d]
          refine o_call rfl rfl q1 rfl rfl ?_
          simp (config := sc) (disch := first | exact dd | fail) [std]
          refine o_call rfl rfl q2 rfl rfl ?_
          simp (config := sc) (disch := first | exact dd | fail) [std, he, hfu]
          refine o_call rfl rfl q3 rfl rfl ?_
          simp (config := sc) (disch := first | exact dd | fail) [std, StR.d, hn']
        · have hn' : (r.2 : Int) = cs.length := by omega
          rw [if_neg hn]
          simp (config := sc) (disch := first | exact dd | fail) [std, StR.d]
          refine o_call rfl rfl q1 rfl rfl ?_
          simp (config := sc) (disch := first | exact dd | fail) [std]
          refine o_call rfl rfl q2 rfl rfl ?_
          simp (config := sc) (disch := first | exact dd | fail) [std, he, hfu]
          refine o_call rfl rfl q3 rfl rfl ?_
          simp (config := sc) (disch := first | exact dd | fail) [std, StR.d, hn']
    · rw [if_pos he]
      simp (config := sc) (disch := first | exact dd | fail) [std, StR.d]
      refine o_call rfl rfl q1 rfl rfl ?_
      simp (config := sc) (disch := first | exact dd | fail) [std]
      refine o_call rfl rfl q2 rfl rfl ?_
      simp (config := sc) (disch := first | exact dd | fail) [std, he, StR.d]

end Go.Proofs.YtkbidfohcanijaaGreat
