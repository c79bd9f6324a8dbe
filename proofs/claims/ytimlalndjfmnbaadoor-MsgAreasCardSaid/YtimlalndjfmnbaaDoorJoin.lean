/- Options that are joined: tlv.at, tlv.Right, tlv.join at a slice that is a box; tlv.Read, tlv.Join; the document's. -/
import Derived.Test.YtimlalndjfmnbaaDoorTlv
namespace Go.Proofs.YtimlalndjfmnbaaDoor
open BoEng Go
set_option maxRecDepth 100000
attribute [-simp] List.map_take List.map_drop List.length_flatMap
set_option linter.unusedSimpArgs false
set_option linter.unusedVariables false

def oBox (xs : List Opt) : List PV := (flat (xs.map Opt.d)).map .d
theorem oBox_nil : oBox [] = [] := rfl
theorem oBox_cons (x : Opt) (xs : List Opt) : oBox (x :: xs) = .d (.int .i64 x.code) :: .d (.slice (x.data.map byteD)) :: oBox xs := rfl
theorem oBox_app (xs ys : List Opt) : oBox (xs ++ ys) = oBox xs ++ oBox ys := by simp [oBox, flat_append]
@[simp] theorem oBox_len (xs : List Opt) : (oBox xs).length = xs.length * 2 := by
  induction xs with
  | nil => rfl
  | cons x xs ih => rw [oBox_cons]; simp only [List.length_cons, ih]; omega
theorem oBox_drop (xs : List Opt) : ∀ i, (oBox xs).drop (i * 2) = oBox (xs.drop i) := by
  induction xs with
  | nil => intro i; simp [oBox_nil]
  | cons x xs ih =>
    intro i
    cases i with
    | zero => simp
    | succ i =>
      rw [oBox_cons, show (i + 1) * 2 = i * 2 + 2 by omega]
      simp only [List.drop_succ_cons]
      exact ih i
theorem oBox_take (xs : List Opt) : ∀ i, (oBox xs).take (i * 2) = oBox (xs.take i) := by
  induction xs with
  | nil => intro i; simp [oBox_nil]
  | cons x xs ih =>
    intro i
    cases i with
    | zero => simp [oBox_nil]
    | succ i =>
      rw [oBox_cons, show (i + 1) * 2 = i * 2 + 2 by omega]
      simp only [List.take_succ_cons, ih i]
      exact (oBox_cons x _).symm
theorem oBox_at {xs : List Opt} {i : Nat} (h : i < xs.length) : ((oBox xs).drop (i * 2)).take 2 = [.d (.int .i64 xs[i].code), .d (.slice (xs[i].data.map byteD))] := by
  rw [oBox_drop, List.drop_eq_getElem_cons h, oBox_cons]
  rfl
theorem oBox_snd {xs : List Opt} {i : Nat} (h : i < xs.length) : (oBox xs)[i * 2 + 1]? = some (.d (.slice (xs[i].data.map byteD))) := by
  have h1 : ((oBox xs).drop (i * 2))[1]? = some (.d (.slice (xs[i].data.map byteD))) := by
    rw [oBox_drop, List.drop_eq_getElem_cons h, oBox_cons]
    rfl
  rwa [List.getElem?_drop] at h1
theorem oBox_toD (xs : List Opt) : toD (oBox xs) = some (flat (xs.map Opt.d)) := by unfold oBox; exact toD_m
theorem oBox_chunk (xs : List Opt) : chunk 2 true xs.length (flat (xs.map Opt.d)) = xs.map Opt.d := by
  induction xs with
  | nil => rfl
  | cons x xs ih =>
    rw [List.map_cons, flat_cons, show cells x.d = [.int .i64 x.code, .slice (x.data.map byteD)] from rfl, List.length_cons]
    simp only [chunk, List.cons_append, List.nil_append, List.take_succ_cons, List.take_zero, List.drop_succ_cons, List.drop_zero, if_true, ih, Opt.d]
theorem oBox_thaw {xs : List Opt} {n : Nat} (h : xs.length = n) : (toD ((oBox xs).take (n * 2))).map (chunk 2 true n) = some (xs.map Opt.d) := by
  subst h
  rw [List.take_of_length_le (by rw [oBox_len]; omega), oBox_toD, Option.map_some, oBox_chunk]
theorem oBox_set {xs : List Opt} {i : Nat} (h : i < xs.length) (d : List UInt8) : (oBox xs).take (i * 2 + 1) ++ .d (.slice (d.map byteD)) :: (oBox xs).drop (i * 2 + 1 + 1) = oBox (xs.set i ⟨xs[i].code, d⟩) := by
  have h1 : (oBox xs).take (i * 2 + 1) = oBox (xs.take i) ++ [.d (.int .i64 xs[i].code)] := by
    rw [← oBox_take]
    have h2 : (oBox xs)[i * 2]? = some (.d (.int .i64 xs[i].code)) := by
      have h1 : ((oBox xs).drop (i * 2))[0]? = some (.d (.int .i64 xs[i].code)) := by
        rw [oBox_drop, List.drop_eq_getElem_cons h, oBox_cons]
        rfl
      rwa [List.getElem?_drop, Nat.add_zero] at h1
    rw [List.take_add_one, h2]; rfl
  rw [h1, show i * 2 + 1 + 1 = (i + 1) * 2 by omega, oBox_drop, List.set_eq_take_append_cons_drop, if_pos h, oBox_app, oBox_cons, List.append_assoc]
  rfl
def oU (no g : Nat) (xs : List Opt) : Upd := ⟨no, g, oBox xs, fun _ => false⟩

/-- One more option, joined. -/
def joinS (l : List Opt) (o : Opt) : List Opt := if h : (atS l o.code).toNat < l.length ∧ 0 ≤ atS l o.code then l.set (atS l o.code).toNat ⟨l[(atS l o.code).toNat].code, l[(atS l o.code).toNat].data ++ o.data⟩ else l ++ [o]

def joinG (l : List Opt) (c : Int) (g : Nat) : Nat := if atS l c < 0 then g + 1 else g

def atBI (no g : Nat) (l : List Opt) (c : Int) (fo i : Nat) (S : PS) : Prop :=
  i ≤ l.length ∧ (∀ j (hj : j < i) (hl : j < l.length), l[j].code ≠ c) ∧ S.t 5 = .fn 71 [.cptr [.int .i64 c]] ∧ S.t 9 = .bsl no g l.length 2 true ∧ S.t 10 = .d (.int .i64 l.length) ∧ S.t 11 = .d (.int .i64 i) ∧ S.fo = fo ∧ S.gen no = g ∧ S.box no = oBox l
theorem tlvAtB (l : List Opt) (c : Int) (no g : Nat) {fo : Nat} {gl : Nat → Nat} (hl : sized l) (hno : no < fo) (hg : 0 < g) : Meets Tryd.prog fo gl 55 [.bsl no g l.length 2 true, .d (.int .i64 c)] [oU no g l] (.d (.int .i64 (atS l c))) (fun _ => false) [oU no g l] := by
  refine Meets.by (by kernel_rfl) Tryd.func55 (by kernel_rfl) rfl [20003, 60007, 70014, 70015] (by simp) (by kernel_rfl) (by kernel_rfl) (by simp [namesIn, namesL, hg, oU, oBox]) (by simp [namesIn, namesL, hg, oU, oBox]) (by simp [hg, oU, oBox]) ?_
  conv in ccs _ => cbv
  have hs := hl.1
  have hk1 : ∀ k, (no = fo + k) = False := fun k => by simp; omega
  have hk2 : ∀ k, (fo + k = no) = False := fun k => by simp; omega
  simp (config := sc) (disch := try exact dd) [std, oU]
  refine lp (atBI no g l c fo) (fun i => l.length - i) 0 ⟨by omega, by simp, by simp (config := sc) (disch := try exact dd) [std], by simp (config := sc) (disch := try exact dd) [std], by simp (config := sc) (disch := try exact dd) [std], by simp (config := sc) (disch := try exact dd) [std], by simp (config := sc) (disch := try exact dd) [std], by simp (config := sc) (disch := try exact dd) [std, hk1, hk2], by simp (config := sc) (disch := try exact dd) [std, hk1, hk2]⟩ ?_
  rintro i S ⟨hi, hn, e5, e9, e10, e11, efo, g1, b1⟩
  by_cases hlt : i < l.length
  · have k6 : (i : Int) < l.length := by omega
    have hat := oBox_at hlt
    have hbl : i * 2 + 2 ≤ (oBox l).length := by rw [oBox_len]; omega
    by_cases hc : l[i].code = c
    · have ha := atS_some l c i hlt (fun j hj => hn j hj (by omega)) hc
      simp (config := sc) (disch := try exact dd) [std, e5, e9, e10, e11, efo, g1, b1, k6, hat, hbl, hk1, hk2]
      refine oc (tlvIs ⟨l[i].code, l[i].data⟩ c) ?_
      simp (config := sc) (disch := try exact dd) [std, oU, e5, e9, e10, e11, efo, g1, b1, k6, hc, ha, hk1, hk2]
    · simp (config := sc) (disch := try exact dd) [std, e5, e9, e10, e11, efo, g1, b1, k6, hat, hbl, hk1, hk2]
      refine oc (tlvIs ⟨l[i].code, l[i].data⟩ c) ?_
      simp (config := sc) (disch := try exact dd) [std, e5, e9, e10, e11, efo, g1, b1, k6, hc, hk1, hk2]
      exact nxt_of (i + 1) ⟨by omega, fun j hj hl => by
        rcases Nat.lt_or_ge j i with h | h
        · exact hn j h hl
        · have : j = i := by omega
          subst this
          exact hc, by simp (config := sc) (disch := try exact dd) [std, e5], by simp (config := sc) (disch := try exact dd) [std, e9], by simp (config := sc) (disch := try exact dd) [std, e10], by simp (config := sc) (disch := try exact dd) [std], by simp (config := sc) (disch := try exact dd) [std, efo], by simp (config := sc) (disch := try exact dd) [std, efo, g1, hk1, hk2], by simp (config := sc) (disch := try exact dd) [std, efo, b1, hk1, hk2]⟩ (by omega)
  · have k6 : ¬ (i : Int) < l.length := by omega
    have hneg : atS l c = -1 := by
      have h1 := (atS_none l c).2 fun o ho => by
        obtain ⟨j, hj, rfl⟩ := List.mem_iff_getElem.1 ho
        exact hn j (by omega) hj
      have := atS_rng l c
      omega
    simp (config := sc) (disch := try exact dd) [std, oU, e5, e9, e10, e11, efo, g1, b1, k6, hneg, hk1, hk2]

def trBI (no g : Nat) (l : List Opt) (fo i : Nat) (S : PS) : Prop :=
  i ≤ l.length ∧ (∀ j (hj : j < i) (hl : j < l.length), okO l[j] = true ∧ atS l l[j].code = j) ∧ S.t 0 = .bsl no g l.length 2 true ∧ S.t 5 = .bsl no g l.length 2 true ∧ S.t 6 = .d (.int .i64 l.length) ∧ S.t 7 = .d (.int .i64 i) ∧ S.fo = fo ∧ S.gen no = g ∧ S.box no = oBox l
theorem tlvRightB (l : List Opt) (no g : Nat) {fo : Nat} {gl : Nat → Nat} (hl : sized l) (hno : no < fo) (hg : 0 < g) : Meets Tryd.prog fo gl 32 [.bsl no g l.length 2 true] [oU no g l] (.d (.bool (rightO l))) (fun _ => false) [oU no g l] := by
  refine Meets.by (by kernel_rfl) Tryd.func32 (by kernel_rfl) rfl [60004, 70010, 70011, 40030] (by simp) (by kernel_rfl) (by kernel_rfl) (by simp [namesIn, namesL, hg, oU, oBox]) (by simp [namesIn, namesL, hg, oU, oBox]) (by simp [hg, oU, oBox]) ?_
  conv in ccs _ => cbv
  have hs := hl.1
  have hk1 : ∀ k, (no = fo + k) = False := fun k => by simp; omega
  have hk2 : ∀ k, (fo + k = no) = False := fun k => by simp; omega
  simp (config := sc) (disch := try exact dd) [std, oU]
  refine lp (trBI no g l fo) (fun i => l.length - i) 0 ⟨by omega, by simp, by simp (config := sc) (disch := try exact dd) [std], by simp (config := sc) (disch := try exact dd) [std], by simp (config := sc) (disch := try exact dd) [std], by simp (config := sc) (disch := try exact dd) [std], by simp (config := sc) (disch := try exact dd) [std], by simp (config := sc) (disch := try exact dd) [std, hk1, hk2], by simp (config := sc) (disch := try exact dd) [std, hk1, hk2]⟩ ?_
  rintro i S ⟨hi, hn, e0, e5, e6, e7, efo, g1, b1⟩
  by_cases hlt : i < l.length
  · have k6 : (i : Int) < l.length := by omega
    have hat := oBox_at hlt
    have hbl : i * 2 + 2 ≤ (oBox l).length := by rw [oBox_len]; omega
    have hz := sized_at hl hlt
    have q := fun gl => tlvAtB l l[i].code no g (fo := fo + 1000) (gl := gl) hl (by omega) hg
    by_cases hc : okO l[i] = true ∧ atS l l[i].code = i
    · obtain ⟨hc1, hc2⟩ := hc
      have hc3 : (1 ≤ l[i].code ∧ l[i].code ≤ 254) ∧ l[i].data.length ≤ 600 := by simpa [okO] using hc1
      have k1 : ¬ l[i].code ≤ 0 := by omega
      have k2 : ¬ 255 ≤ l[i].code := by omega
      have k3 : ¬ (600 : Int) < l[i].data.length := by omega
      rw [hc2] at q
      simp (config := sc) (disch := try exact dd) [std, e0, e5, e6, e7, efo, g1, b1, k6, hat, hbl, hk1, hk2, k1, k2, k3]
      refine o_cb (fo + 1000) rfl rfl (q _) rfl (by simp (config := sc) (disch := try exact dd) [std, oU, e0, e5, e6, e7, efo, g1, b1, k6, hk1, hk2, hg]) ?_
      simp (config := sc) (disch := try exact dd) [std, oU, e0, e5, e6, e7, efo, g1, b1, k6, hk1, hk2, k1, k2, k3]
      exact nxt_of (i + 1) ⟨by omega, fun j hj hl => by
        rcases Nat.lt_or_ge j i with h | h
        · exact hn j h hl
        · have : j = i := by omega
          subst this
          exact ⟨hc1, hc2⟩, by simp (config := sc) (disch := try exact dd) [std, e0], by simp (config := sc) (disch := try exact dd) [std, e5], by simp (config := sc) (disch := try exact dd) [std, e6], by simp (config := sc) (disch := try exact dd) [std], by simp (config := sc) (disch := try exact dd) [std, efo], by simp (config := sc) (disch := try exact dd) [std, oU, efo, g1, b1, hk1, hk2], by simp (config := sc) (disch := try exact dd) [std, oU, efo, g1, b1, hk1, hk2]⟩ (by omega)
    · have hf : rightO l = false := by
        rw [Bool.eq_false_iff]
        intro h
        simp only [rightO, Bool.and_eq_true, decide_eq_true_eq, List.all_eq_true] at h
        exact hc ⟨h.1.2 _ (List.getElem_mem hlt), (nodup_at l).1 h.2 i hlt⟩
      rw [hf]
      have hc' : ¬ ((1 ≤ l[i].code ∧ l[i].code ≤ 254) ∧ l[i].data.length ≤ 600) ∨ atS l l[i].code ≠ i := by
        by_cases h1 : okO l[i] = true
        · exact .inr fun e => hc ⟨h1, e⟩
        · refine .inl fun e => h1 ?_
          simpa [okO] using e
      clear hc
      by_cases k1 : l[i].code ≤ 0
      · simp (config := sc) (disch := try exact dd) [std, oU, e0, e5, e6, e7, efo, g1, b1, k6, hat, hbl, hk1, hk2, k1]
      · by_cases k2 : 255 ≤ l[i].code
        · simp (config := sc) (disch := try exact dd) [std, oU, e0, e5, e6, e7, efo, g1, b1, k6, hat, hbl, hk1, hk2, k1, k2]
        · by_cases k3 : (600 : Int) < l[i].data.length
          · simp (config := sc) (disch := try exact dd) [std, oU, e0, e5, e6, e7, efo, g1, b1, k6, hat, hbl, hk1, hk2, k1, k2, k3]
          · have k4 : ¬ atS l l[i].code = i := by
              rcases hc' with h | h
              · omega
              · exact h
            simp (config := sc) (disch := try exact dd) [std, e0, e5, e6, e7, efo, g1, b1, k6, hat, hbl, hk1, hk2, k1, k2, k3]
            refine o_cb (fo + 1000) rfl rfl (q _) rfl (by simp (config := sc) (disch := try exact dd) [std, oU, e0, e5, e6, e7, efo, g1, b1, k6, hk1, hk2, hg]) ?_
            simp (config := sc) (disch := try exact dd) [std, oU, e0, e5, e6, e7, efo, g1, b1, k6, hk1, hk2, k1, k2, k3, k4]
  · have k6 : ¬ (i : Int) < l.length := by omega
    have h1 : rightO l = decide ((l.length : Int) ≤ 60) := by
      have h2 : l.all okO = true := by
        rw [List.all_eq_true]
        intro o ho
        obtain ⟨j, hj, rfl⟩ := List.mem_iff_getElem.1 ho
        exact (hn j (by omega) hj).1
      have h3 : (l.map Opt.code).Nodup := (nodup_at l).2 fun j hj => (hn j (by omega) hj).2
      simp only [rightO, h2, h3, decide_true, Bool.and_true]
      rw [Bool.eq_iff_iff]
      simp
      omega
    simp (config := sc) (disch := try exact dd) [std, oU, e0, e5, e6, e7, efo, g1, b1, k6, hk1, hk2, h1]

theorem tlvjoin (l : List Opt) (o : Opt) (no g : Nat) {fo : Nat} {gl : Nat → Nat} (hl : sized l) (ho : o.data.length ≤ 100000) (hno : no < fo) (hg : 0 < g) :
    Meets Tryd.prog fo gl 72 [.bsl no g l.length 2 true, .d o.d] [oU no g l] (.bsl no (joinG l o.code g) (joinS l o).length 2 true) (fun _ => false) [oU no (joinG l o.code g) (joinS l o)] := by
  have hk1 : ∀ k, (no = fo + k) = False := fun k => by simp; omega
  have hk2 : ∀ k, (fo + k = no) = False := fun k => by simp; omega
  have q := fun gl => tlvAtB l o.code no g (fo := fo + 1000) (gl := gl) hl (by omega) hg
  have hr := atS_rng l o.code
  have hs := hl.1
  obtain ⟨c, d⟩ := o
  dsimp only at q hr ho
  by_cases h0 : atS l c < 0
  · have hj : joinS l ⟨c, d⟩ = l ++ [⟨c, d⟩] := by unfold joinS; rw [dif_neg (by dsimp only; omega)]
    rw [hj]
    have hg2 : joinG l c g = g + 1 := by unfold joinG; rw [if_pos h0]
    dsimp only
    rw [hg2]
    refine Meets.by (by kernel_rfl) Tryd.func72 (by kernel_rfl) rfl [20003, 40009, 10021] (by simp) (by kernel_rfl) (by kernel_rfl) (by simp [namesIn, namesL, hg, oU, oBox]) (by simp [namesIn, namesL, hg, oU, oBox]) (by simp [hg, oU, oBox]) ?_
    conv in ccs _ => cbv
    simp (config := sc) (disch := try exact dd) [std, oU, Opt.d]
    refine o_cb (fo + 1000) rfl rfl (q _) rfl (by simp (config := sc) (disch := try exact dd) [std, oU, hk1, hk2, hg]) ?_
    simp (config := sc) (disch := try exact dd) [std, oU, hk1, hk2, h0, oBox_app, oBox_cons, oBox_nil, flat_cons, flat_nil]
    done
  · obtain ⟨i, hi⟩ := Int.eq_ofNat_of_zero_le (show 0 ≤ atS l c by omega)
    have hil : i < l.length := by omega
    have hj : joinS l ⟨c, d⟩ = l.set i ⟨l[i].code, l[i].data ++ d⟩ := by
      unfold joinS
      simp only [hi, Int.toNat_natCast]
      rw [dif_pos ⟨hil, by omega⟩]
    rw [hj]
    have hg2 : joinG l c g = g := by unfold joinG; rw [if_neg h0]
    dsimp only
    rw [hg2]
    rw [hi] at q
    have hat := oBox_snd hil
    have hbl : i * 2 + 1 + 1 ≤ (oBox l).length := by rw [oBox_len]; omega
    have hset := oBox_set hil (l[i].data ++ d)
    have hz := sized_at hl hil
    have hae : ∀ h, (oBox l)[i * 2 + 1]'h = .d (.slice (l[i].data.map byteD)) := fun h => by
      have := List.getElem?_eq_getElem h
      rw [hat] at this
      exact (Option.some.inj this).symm
    refine Meets.by (by kernel_rfl) Tryd.func72 (by kernel_rfl) rfl [20003, 40009, 10021] (by simp) (by kernel_rfl) (by kernel_rfl) (by simp [namesIn, namesL, hg, oU, oBox]) (by simp [namesIn, namesL, hg, oU, oBox]) (by simp [hg, oU, oBox]) ?_
    conv in ccs _ => cbv
    simp (config := sc) (disch := try exact dd) [std, oU, Opt.d]
    refine o_cb (fo + 1000) rfl rfl (q _) rfl (by simp (config := sc) (disch := try exact dd) [std, oU, hk1, hk2, hg]) ?_
    simp (config := sc) (disch := try exact dd) [std, oU, hk1, hk2, hil, hat, hbl, hae]
    rw [← List.map_append]
    exact hset
end Go.Proofs.YtimlalndjfmnbaaDoor
