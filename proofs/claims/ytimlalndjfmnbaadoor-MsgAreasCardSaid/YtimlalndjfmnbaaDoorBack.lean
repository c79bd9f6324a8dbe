/- Plain laws of chapter 4: what is written is read again as it was; what is read is right. -/
import Derived.Test.YtimlalndjfmnbaaDoorLaw04b
namespace Go.Proofs.YtimlalndjfmnbaaDoor
open BoEng Go
set_option maxRecDepth 100000
set_option linter.unusedSimpArgs false
set_option linter.unusedVariables false

/-! options that are written, and read again -/
def Rd (l : List Opt) (b : List UInt8) (r : Int × List Opt) : Prop := ∀ n, b.length ≤ n → rdN n l b = r
theorem Rd.s {b : List UInt8} {r : Int × List Opt} (h : Rd [] b r) : rdS b = r := h _ (Nat.le_refl _)
theorem rdN_1 (n : Nat) (l : List Opt) (r : List UInt8) : rdN (n + 1) l (255 :: r) = (0, l) := by
  unfold rdN
  rw [if_pos (by decide)]
theorem rdN_2 (n : Nat) (l : List Opt) (c k : UInt8) (r : List UInt8) : rdN (n + 1) l (c :: k :: r) = if c.toNat = 255 then (0, l) else if c.toNat = 0 then rdN n l (k :: r) else if r.length < k.toNat then (2, []) else if rightO (joinS l ⟨c.toNat, r.take k.toNat⟩) = true then rdN n (joinS l ⟨c.toNat, r.take k.toNat⟩) (r.drop k.toNat) else (3, []) := by
  conv => lhs; unfold rdN
theorem rd_end (l : List Opt) (z : List UInt8) : Rd l (255 :: z) (0, l) := by
  intro n hn
  match n, hn with
  | 0, hn => simp at hn
  | n + 1, hn => exact rdN_1 n l z
theorem rd_opt {l : List Opt} {c k : UInt8} {d rest : List UInt8} {r : Int × List Opt} (h1 : 1 ≤ c.toNat) (h2 : c.toNat ≤ 254) (hk : k.toNat = d.length) (hr : rightO (joinS l ⟨c.toNat, d⟩) = true) (h : Rd (joinS l ⟨c.toNat, d⟩) rest r) : Rd l (c :: k :: (d ++ rest)) r := by
  intro n hn
  simp only [List.length_cons, List.length_append] at hn
  match n, hn with
  | n + 1, hn =>
    have ht : (d ++ rest).take k.toNat = d := by rw [hk]; simp
    have hd : (d ++ rest).drop k.toNat = rest := by rw [hk]; simp
    rw [rdN_2, if_neg (by omega), if_neg (by omega), ht, hd]
    rw [if_neg (by simp only [List.length_append]; omega), if_pos hr]
    exact h n (by omega)
theorem lowB_c {c : Int} (h : 0 ≤ c ∧ c ≤ 255) : ((lowB c).toNat : Int) = c := by rw [lowB_nat]; omega
theorem lowB_n {n : Nat} (h : n ≤ 255) : (lowB (n : Int)).toNat = n := by have := lowB_c (c := n) (by omega); omega
theorem okO_iff {o : Opt} : okO o = true ↔ (1 ≤ o.code ∧ o.code ≤ 254) ∧ o.data.length ≤ 600 := by simp [okO]
theorem rightO_iff {l : List Opt} : rightO l = true ↔ l.length ≤ 60 ∧ (∀ o ∈ l, (1 ≤ o.code ∧ o.code ≤ 254) ∧ o.data.length ≤ 600) ∧ (l.map Opt.code).Nodup := by
  simp only [rightO, Bool.and_eq_true, decide_eq_true_eq, List.all_eq_true, okO_iff, and_assoc]
theorem rightO_pre {l r : List Opt} {c : Int} {d e : List UInt8} (h : rightO (l ++ ⟨c, d⟩ :: r) = true) (he : e.length ≤ d.length) : rightO (l ++ [⟨c, e⟩]) = true := by
  rw [rightO_iff] at h ⊢
  obtain ⟨h1, h2, h3⟩ := h
  refine ⟨by simp at h1 ⊢; omega, fun o ho => ?_, ?_⟩
  · rcases List.mem_append.1 ho with h | h
    · exact h2 o (by simp [h])
    · have hc := h2 ⟨c, d⟩ (by simp)
      simp only [List.mem_singleton] at h
      subst h
      dsimp only at hc ⊢
      omega
  · have : ((l ++ [(⟨c, e⟩ : Opt)]).map Opt.code).Sublist ((l ++ (⟨c, d⟩ : Opt) :: r).map Opt.code) := by
      simp only [List.map_append, List.map_cons, List.map_nil]
      exact (List.Sublist.refl _).append (by simp)
    exact h3.sublist this
theorem nodup_fresh {l r : List Opt} {o : Opt} (h : ((l ++ o :: r).map Opt.code).Nodup) : atS l o.code < 0 := by
  rw [atS_none]
  intro x hx e
  rw [List.map_append, List.nodup_append] at h
  exact h.2.2 _ (List.mem_map_of_mem hx) _ (by simp) e
theorem join_last {l : List Opt} {c : Int} {p d : List UInt8} (h : atS l c < 0) : joinS (l ++ [⟨c, p⟩]) ⟨c, d⟩ = l ++ [⟨c, p ++ d⟩] := by
  have hi : atS (l ++ [⟨c, p⟩]) c = (l.length : Nat) := by
    refine atS_some _ c l.length (by simp) (fun j hj e => ?_) (by simp)
    rw [List.getElem_append_left hj] at e
    exact (atS_none l c).1 h _ (List.getElem_mem hj) e
  rw [joinS_old (i := l.length) (by simp) hi]
  simp
/-- The rest of one option's bytes. -/
theorem rd_tail {l r : List Opt} {c : Int} {D rest : List UInt8} {q : Int × List Opt} (hr : rightO (l ++ ⟨c, D⟩ :: r) = true) :
    ∀ (n : Nat) (p d : List UInt8), d.length ≤ n → p ++ d = D → Rd (l ++ [⟨c, D⟩]) rest q → Rd (l ++ [⟨c, p⟩]) (oneW c d ++ rest) q := by
  have hc : 1 ≤ c ∧ c ≤ 254 := ((rightO_iff.1 hr).2.1 ⟨c, D⟩ (by simp)).1
  have hf : atS l c < 0 := nodup_fresh (o := ⟨c, D⟩) (rightO_iff.1 hr).2.2
  have hl := lowB_c (c := c) (by omega)
  intro n
  induction n with
  | zero =>
    intro p d hd e h
    have : d = [] := List.length_eq_zero_iff.1 (by omega)
    subst this
    rw [oneS_le (by simp)]
    have hj := join_last (p := p) (d := []) hf
    refine rd_opt (d := []) (by omega) (by omega) (lowB_n (by simp)) ?_ ?_
    · rw [hl, hj]
      exact rightO_pre hr (by rw [e]; exact Nat.le_refl _)
    · rw [hl, hj, e]; exact h
  | succ n ih =>
    intro p d hd e h
    by_cases hb : 255 < d.length
    · rw [oneS_gt hb]
      have hj := join_last (p := p) (d := d.take 255) hf
      have e2 : p ++ d.take 255 ++ d.drop 255 = D := by rw [List.append_assoc, List.take_append_drop]; exact e
      have := ih (p ++ d.take 255) (d.drop 255) (by simp; omega) e2 h
      simp only [List.cons_append, List.append_assoc]
      refine rd_opt (d := d.take 255) (by omega) (by omega) (by rw [List.length_take, Nat.min_eq_left (by omega)]; decide) ?_ ?_
      · rw [hl, hj]
        exact rightO_pre hr (by have := congrArg List.length e2; simp only [List.length_append] at this ⊢; omega)
      · rw [hl, hj]; exact this
    · rw [oneS_le hb]
      have hj := join_last (p := p) (d := d) hf
      simp only [List.cons_append]
      refine rd_opt (d := d) (by omega) (by omega) (lowB_n (by omega)) ?_ ?_
      · rw [hl, hj]
        exact rightO_pre hr (by rw [e]; exact Nat.le_refl _)
      · rw [hl, hj, e]; exact h
theorem rd_one {l r : List Opt} {c : Int} {D rest : List UInt8} {q : Int × List Opt} (hr : rightO (l ++ ⟨c, D⟩ :: r) = true) (h : Rd (l ++ [⟨c, D⟩]) rest q) : Rd l (oneW c D ++ rest) q := by
  have hc : 1 ≤ c ∧ c ≤ 254 := ((rightO_iff.1 hr).2.1 ⟨c, D⟩ (by simp)).1
  have hf : atS l c < 0 := nodup_fresh (o := ⟨c, D⟩) (rightO_iff.1 hr).2.2
  have hl := lowB_c (c := c) (by omega)
  by_cases hb : 255 < D.length
  · rw [oneS_gt hb]
    have hj : joinS l ⟨c, D.take 255⟩ = l ++ [⟨c, D.take 255⟩] := joinS_new hf
    simp only [List.cons_append, List.append_assoc]
    refine rd_opt (d := D.take 255) (by omega) (by omega) (by rw [List.length_take, Nat.min_eq_left (by omega)]; decide) ?_ ?_
    · rw [hl, hj]
      exact rightO_pre hr (by simp; omega)
    · rw [hl, hj]
      exact rd_tail hr _ _ _ (Nat.le_refl _) (List.take_append_drop 255 D) h
  · rw [oneS_le hb]
    have hj : joinS l ⟨c, D⟩ = l ++ [⟨c, D⟩] := joinS_new hf
    simp only [List.cons_append]
    refine rd_opt (d := D) (by omega) (by omega) (lowB_n (by omega)) ?_ ?_
    · rw [hl, hj]
      exact rightO_pre hr (Nat.le_refl _)
    · rw [hl, hj]; exact h
theorem rd_write (z : List UInt8) : ∀ (r l : List Opt), rightO (l ++ r) = true → Rd l (writeO r ++ z) (0, l ++ r)
  | [], l, h => by
    rw [List.append_nil]
    exact rd_end l z
  | ⟨c, D⟩ :: r, l, h => by
    have e : writeO (⟨c, D⟩ :: r) ++ z = oneW c D ++ (writeO r ++ z) := by simp [writeO, optB1]
    rw [e]
    refine rd_one h ?_
    have := rd_write z r (l ++ [⟨c, D⟩]) (by simpa using h)
    simpa using this
theorem rdS_write {l : List Opt} (h : rightO l = true) (z : List UInt8) : rdS (writeO l ++ z) = (0, l) := (rd_write z l [] (by simpa using h)).s

/-! a message that is written, and read again -/
theorem vAt_skip {v : Int} {k a n : Nat} {z : List UInt8} (h : k ≤ a) : vAt (putI v k ++ z) a n = vAt z (a - k) n := by
  unfold vAt
  rw [List.drop_append, List.drop_eq_nil_of_le (by simpa using h)]
  simp
theorem vAt_head {v : Int} {a n : Nat} {z : List UInt8} (h : a = 0) : vAt (putI v n ++ z) a n = valB (putI v n) := by
  unfold vAt
  subst h
  rw [List.drop_zero, List.take_left' (putI_len n v)]
theorem put1 {v : Int} (h : 0 ≤ v ∧ v ≤ 255) : valB (putI v 1) = v := putI_val 1 v h.1 (by omega)
theorem put2 {v : Int} (h : 0 ≤ v ∧ v ≤ 65535) : valB (putI v 2) = v := putI_val 2 v h.1 (by omega)
theorem put4 {v : Int} (h : 0 ≤ v ∧ v ≤ 4294967295) : valB (putI v 4) = v := putI_val 4 v h.1 (by omega)
structure MsgL (m : Msg) : Prop where
  op : 0 ≤ m.op ∧ m.op ≤ 255
  ht : 0 ≤ m.htype ∧ m.htype ≤ 255
  hl : 0 ≤ m.hlen ∧ m.hlen ≤ 16
  hp : 0 ≤ m.hops ∧ m.hops ≤ 255
  xid : 0 ≤ m.xid ∧ m.xid ≤ 4294967295
  secs : 0 ≤ m.secs ∧ m.secs ≤ 65535
  flags : 0 ≤ m.flags ∧ m.flags ≤ 65535
  ci : 0 ≤ m.ci ∧ m.ci ≤ 4294967295
  yi : 0 ≤ m.yi ∧ m.yi ≤ 4294967295
  si : 0 ≤ m.si ∧ m.si ≤ 4294967295
  gi : 0 ≤ m.gi ∧ m.gi ≤ 4294967295
  ch : m.chaddr.length = 16
theorem MsgN.l {m : Msg} (h : MsgN m) : MsgL m := ⟨h.op, h.ht, h.hl, h.hp, h.xid, h.secs, h.flags, h.ci, h.yi, h.si, h.gi, h.ch⟩
/-- The head's 44 bytes. -/
def h44 (m : Msg) : List UInt8 := putI m.op 1 ++ putI m.htype 1 ++ putI m.hlen 1 ++ putI m.hops 1 ++ putI m.xid 4 ++ putI m.secs 2 ++ putI m.flags 2 ++ putI m.ci 4 ++ putI m.yi 4 ++ putI m.si 4 ++ putI m.gi 4 ++ m.chaddr
theorem h44_len {m : Msg} (h : m.chaddr.length = 16) : (h44 m).length = 44 := by simp [h44, h]
theorem hdS_eq (m : Msg) : hdS m = h44 m ++ (List.replicate 192 0 ++ ([99, 130, 83, 99] ++ writeO m.opts)) := by
  simp [hdS, h44, List.append_assoc]
/-- What is read of bytes that begin with a head, with something in the two areas, and the cookie. -/
theorem head_read {m : Msg} (h : MsgL m) {A rest b : List UInt8} (hA : A.length = 192) (hb : b = h44 m ++ (A ++ ([99, 130, 83, 99] ++ rest))) (hlen : b.length ≤ 1500) :
    rdM b = if (optsS b).1 ≠ 0 then ((optsS b).1, m0) else (0, { m with opts := (optsS b).2 }) := by
  have h4 := h44_len h.ch
  have hbl : 240 ≤ b.length := by rw [hb]; simp [h4, hA]; omega
  have c : vAt b 236 4 = 1669485411 := by
    have e : b = (h44 m ++ A) ++ ([99, 130, 83, 99] ++ rest) := by rw [hb]; simp only [List.append_assoc]
    unfold vAt
    rw [e, List.drop_left' (by simp [h4, hA])]
    rfl
  have e : ∃ R, b = putI m.op 1 ++ (putI m.htype 1 ++ (putI m.hlen 1 ++ (putI m.hops 1 ++ (putI m.xid 4 ++ (putI m.secs 2 ++ (putI m.flags 2 ++ (putI m.ci 4 ++ (putI m.yi 4 ++ (putI m.si 4 ++ (putI m.gi 4 ++ R)))))))))) := ⟨m.chaddr ++ (A ++ ([99, 130, 83, 99] ++ rest)), by rw [hb]; simp only [h44, List.append_assoc]⟩
  obtain ⟨R, e⟩ := e
  have v0 : vAt b 0 1 = m.op := by
    rw [e]
    repeat rw [vAt_skip (by decide)]
    rw [vAt_head (by decide), put1 h.op]
  have v1 : vAt b 1 1 = m.htype := by
    rw [e]
    repeat rw [vAt_skip (by decide)]
    rw [vAt_head (by decide), put1 h.ht]
  have v2 : vAt b 2 1 = m.hlen := by
    rw [e]
    repeat rw [vAt_skip (by decide)]
    rw [vAt_head (by decide), put1 (by have := h.hl; omega)]
  have v3 : vAt b 3 1 = m.hops := by
    rw [e]
    repeat rw [vAt_skip (by decide)]
    rw [vAt_head (by decide), put1 h.hp]
  have v4 : vAt b 4 4 = m.xid := by
    rw [e]
    repeat rw [vAt_skip (by decide)]
    rw [vAt_head (by decide), put4 h.xid]
  have v8 : vAt b 8 2 = m.secs := by
    rw [e]
    repeat rw [vAt_skip (by decide)]
    rw [vAt_head (by decide), put2 h.secs]
  have v10 : vAt b 10 2 = m.flags := by
    rw [e]
    repeat rw [vAt_skip (by decide)]
    rw [vAt_head (by decide), put2 h.flags]
  have v12 : vAt b 12 4 = m.ci := by
    rw [e]
    repeat rw [vAt_skip (by decide)]
    rw [vAt_head (by decide), put4 h.ci]
  have v16 : vAt b 16 4 = m.yi := by
    rw [e]
    repeat rw [vAt_skip (by decide)]
    rw [vAt_head (by decide), put4 h.yi]
  have v20 : vAt b 20 4 = m.si := by
    rw [e]
    repeat rw [vAt_skip (by decide)]
    rw [vAt_head (by decide), put4 h.si]
  have v24 : vAt b 24 4 = m.gi := by
    rw [e]
    repeat rw [vAt_skip (by decide)]
    rw [vAt_head (by decide), put4 h.gi]
  have vc : (b.take 44).drop 28 = m.chaddr := by
    have e1 : b.take 44 = h44 m := by rw [hb]; exact List.take_left' h4
    have e2 : h44 m = (putI m.op 1 ++ putI m.htype 1 ++ putI m.hlen 1 ++ putI m.hops 1 ++ putI m.xid 4 ++ putI m.secs 2 ++ putI m.flags 2 ++ putI m.ci 4 ++ putI m.yi 4 ++ putI m.si 4 ++ putI m.gi 4) ++ m.chaddr := rfl
    rw [e1, e2]
    exact List.drop_left' (by simp)
  unfold rdM hdM
  rw [if_neg (by omega), if_neg (by omega), c, v2, if_neg (by have := h.hl; omega), v0, v1, v3, v4, v8, v10, v12, v16, v20, v24, vc]
theorem rightM_of {m : Msg} (h : MsgN m) (h52 : findS m.opts 52 = none) : rightM m = true := by
  simp only [rightM, Bool.and_eq_true, decide_eq_true_eq, rightA_iff, h52, Option.isNone_none]
  exact ⟨⟨⟨⟨⟨⟨⟨⟨⟨⟨⟨⟨⟨h.op, h.ht⟩, h.hl⟩, h.hp⟩, h.xid⟩, h.secs⟩, h.flags⟩, h.ci⟩, h.yi⟩, h.si⟩, h.gi⟩, h.ch⟩, h.ro⟩, trivial⟩
theorem noOver {m : Msg} (h : rightM m = true) : findS m.opts 52 = none := by
  simp only [rightM, Bool.and_eq_true] at h
  exact Option.isNone_iff_eq_none.1 h.2
theorem optsS_of {b : List UInt8} {l : List Opt} {z : List UInt8} (hb : b.drop 240 = writeO l ++ z) (hr : rightO l = true) (h52 : findS l 52 = none) : optsS b = (0, l) := by
  unfold optsS
  rw [hb, rdS_write hr, takeS_n h52]
  rw [if_neg (by simp), if_neg (by simp), optsT0]
theorem back (m : Msg) (h : rightM m = true) (hlen : (bytesS m).length ≤ 1500) : rdM (bytesS m) = (0, m) := by
  have hn := (rightM_n h).l
  have hb : bytesS m = h44 m ++ (List.replicate 192 0 ++ ([99, 130, 83, 99] ++ (writeO m.opts ++ List.replicate (300 - (hdS m).length) 0))) := by
    unfold bytesS
    conv => lhs; lhs; rw [hdS_eq]
    simp only [List.append_assoc]
  have ho : optsS (bytesS m) = (0, m.opts) := by
    refine optsS_of (z := List.replicate (300 - (hdS m).length) 0) ?_ (rightM_n h).ro (noOver h)
    have e : bytesS m = (h44 m ++ (List.replicate 192 0 ++ [99, 130, 83, 99])) ++ (writeO m.opts ++ List.replicate (300 - (hdS m).length) 0) := by rw [hb]; simp only [List.append_assoc]
    rw [e]
    exact List.drop_left' (by simp [h44_len hn.ch])
  rw [head_read hn (List.length_replicate) hb hlen, ho]
  rfl

/-! what is read is right -/
theorem vAt_rng (b : List UInt8) (a n : Nat) (h : a + n ≤ b.length) : 0 ≤ vAt b a n ∧ vAt b a n < 256 ^ n := valB_rng n _ (by simp; omega)
theorem without_none (l : List Opt) : findS (withoutS l 52) 52 = none := by
  simp [findS, withoutS, List.find?_eq_none]
theorem find_none {l : List Opt} {c : Int} : findS l c = none ↔ ∀ o ∈ l, o.code ≠ c := by
  simp [findS, List.find?_eq_none]
theorem join_none {l : List Opt} {o : Opt} {c : Int} (h : findS l c = none) (ho : o.code ≠ c) : findS (joinS l o) c = none := by
  rw [find_none] at h ⊢
  intro x hx
  unfold joinS at hx
  split at hx
  · rename_i hh
    rcases List.mem_or_eq_of_mem_set hx with h1 | h1
    · exact h x h1
    · subst h1
      exact h (l[(atS l o.code).toNat]'hh.1) (List.getElem_mem hh.1)
  · rcases List.mem_append.1 hx with h1 | h1
    · exact h x h1
    · simp only [List.mem_singleton] at h1
      subst h1
      exact ho
theorem fold_none {c : Int} : ∀ (xs l : List Opt), findS l c = none → (∀ o ∈ xs, o.code ≠ c) → findS (xs.foldl joinS l) c = none
  | [], l, h, _ => h
  | x :: xs, l, h, hx => fold_none xs _ (join_none h (hx x (by simp))) fun o ho => hx o (by simp [ho])
theorem more_none {l : List Opt} (hl : rightO l = true) (h : findS l 52 = none) (a : List UInt8) (h0 : (moreS l a).1 = 0) : rightO (moreS l a).2 = true ∧ findS (moreS l a).2 52 = none := by
  have he := moreS_err hl a
  have hr : rightO (moreS l a).2 = true := by
    rcases he with h1 | h1
    · exact h1.2
    · rw [h0] at h1; rcases h1.1 with h | h <;> exact absurd h (by decide)
  refine ⟨hr, ?_⟩
  unfold moreS at h0 ⊢
  have hr2 := rdS_err a
  generalize rdS a = p at *
  obtain ⟨e, m⟩ := p
  dsimp only at *
  split at h0
  · rename_i hne; exact absurd h0 hne
  · rename_i hne
    rw [if_neg hne]
    have hm : rightO m = true := by
      rcases hr2 with h1 | h1
      · exact h1.2
      · exact absurd (by rcases h1.1 with h | h <;> rw [h] <;> decide) hne
    cases hf : findS m 52 with
    | some d => rw [hf] at h0; simp at h0
    | none =>
      rw [hf] at h0
      rw [Option.isSome_none, if_neg (by decide)] at h0 ⊢
      unfold jnS at h0 ⊢
      rw [if_pos ⟨hl, hm⟩] at h0 ⊢
      split
      · rw [jnS_fold hl]
        exact fold_none m l h (find_none.1 hf)
      · rename_i hc
        rw [if_neg hc] at h0
        exact absurd h0 (by decide)
theorem optsS_none (b : List UInt8) (h0 : (optsS b).1 = 0) : rightO (optsS b).2 = true ∧ findS (optsS b).2 52 = none := by
  unfold optsS at h0 ⊢
  have he := rdS_err (b.drop 240)
  generalize rdS (b.drop 240) = p at *
  obtain ⟨e, l⟩ := p
  dsimp only at *
  split at h0
  · rename_i hne; exact absurd h0 hne
  · rename_i hne
    rw [if_neg hne]
    have hl : rightO l = true := by
      rcases he with h1 | h1
      · exact h1.2
      · exact absurd (by rcases h1.1 with h | h <;> rw [h] <;> decide) hne
    cases hf : findS l 52 with
    | none =>
      rw [takeS_n hf, if_neg (by simp), optsT0]
      exact ⟨hl, hf⟩
    | some d =>
      match d, hf with
      | [], hf => rw [takeS_0 hf] at h0; simp at h0
      | x :: y :: r, hf => rw [takeS_2 hf] at h0; simp at h0
      | [x], hf =>
        rw [takeS_1 hf] at h0 ⊢
        by_cases h13 : 1 ≤ x.toNat ∧ x.toNat ≤ 3
        · rw [if_pos h13] at h0 ⊢
          rw [if_neg (by simp)] at h0 ⊢
          have hw := without_right (c := 52) hl
          have hwn := without_none l
          have h123 : x.toNat = 1 ∨ x.toNat = 2 ∨ x.toNat = 3 := by omega
          dsimp only at h0 ⊢
          generalize withoutS l 52 = m at *
          rcases h123 with h | h | h
          · have hx : (x.toNat : Int) = 1 := by omega
            rw [hx] at h0 ⊢
            rw [optsT1] at h0 ⊢
            exact more_none hw hwn _ h0
          · have hx : (x.toNat : Int) = 2 := by omega
            rw [hx] at h0 ⊢
            rw [optsT2] at h0 ⊢
            exact more_none hw hwn _ h0
          · have hx : (x.toNat : Int) = 3 := by omega
            rw [hx] at h0 ⊢
            rw [optsT3] at h0 ⊢
            split at h0
            · rename_i hn; exact absurd h0 hn
            · rename_i hn
              rw [if_neg hn]
              have h1 := more_none hw hwn _ (Decidable.not_not.1 hn)
              exact more_none h1.1 h1.2 _ h0
        · rw [if_neg h13] at h0
          simp at h0
theorem rdM_right (b : List UInt8) (h0 : (rdM b).1 = 0) : rightM (rdM b).2 = true := by
  unfold rdM at h0 ⊢
  split at h0
  · exact absurd h0 (by decide)
  · rename_i h1
    rw [if_neg h1]
    split at h0
    · exact absurd h0 (by decide)
    · rename_i h2
      rw [if_neg h2]
      split at h0
      · exact absurd h0 (by decide)
      · rename_i h3
        rw [if_neg h3]
        split at h0
        · rename_i h4; exact absurd h0 h4
        · rename_i h4
          rw [if_neg h4]
          obtain ⟨hr, hn⟩ := optsS_none b (Decidable.not_not.1 h4)
          generalize (optsS b).2 = l at hr hn ⊢
          have w0 := vAt_rng b 0 1 (by omega)
          have w1 := vAt_rng b 1 1 (by omega)
          have w2 := vAt_rng b 2 1 (by omega)
          have w3 := vAt_rng b 3 1 (by omega)
          have w4 := vAt_rng b 4 4 (by omega)
          have w8 := vAt_rng b 8 2 (by omega)
          have w10 := vAt_rng b 10 2 (by omega)
          have w12 := vAt_rng b 12 4 (by omega)
          have w16 := vAt_rng b 16 4 (by omega)
          have w20 := vAt_rng b 20 4 (by omega)
          have w24 := vAt_rng b 24 4 (by omega)
          have p1 : (256 : Int) ^ 1 = 256 := by decide
          have p2 : (256 : Int) ^ 2 = 65536 := by decide
          have p4 : (256 : Int) ^ 4 = 4294967296 := by decide
          rw [p1] at w0 w1 w2 w3
          rw [p2] at w8 w10
          rw [p4] at w4 w12 w16 w20 w24
          have hch : ((b.take 44).drop 28).length = 16 := by simp; omega
          exact rightM_of ⟨⟨w0.1, by show vAt b 0 1 ≤ 255; omega⟩, ⟨w1.1, by show vAt b 1 1 ≤ 255; omega⟩, ⟨w2.1, by show vAt b 2 1 ≤ 16; omega⟩, ⟨w3.1, by show vAt b 3 1 ≤ 255; omega⟩, ⟨w4.1, by show vAt b 4 4 ≤ 4294967295; omega⟩, ⟨w8.1, by show vAt b 8 2 ≤ 65535; omega⟩, ⟨w10.1, by show vAt b 10 2 ≤ 65535; omega⟩,
            ⟨w12.1, by show vAt b 12 4 ≤ 4294967295; omega⟩, ⟨w16.1, by show vAt b 16 4 ≤ 4294967295; omega⟩, ⟨w20.1, by show vAt b 20 4 ≤ 4294967295; omega⟩, ⟨w24.1, by show vAt b 24 4 ≤ 4294967295; omega⟩, hch, hr⟩ hn
theorem rdM_bad (b : List UInt8) (h0 : (rdM b).1 ≠ 0) : (rdM b).2 = m0 := by
  unfold rdM at h0 ⊢
  split
  · rfl
  · rename_i h1
    rw [if_neg h1] at h0
    split
    · rfl
    · rename_i h2
      rw [if_neg h2] at h0
      split
      · rfl
      · rename_i h3
        rw [if_neg h3] at h0
        split
        · rfl
        · rename_i h4
          rw [if_neg h4] at h0
          exact absurd rfl h0

/-! areas -/
theorem find_app {l : List Opt} {o : Opt} (h : findS l o.code = none) : findS (l ++ [o]) o.code = some o.data := by
  have := find_none.1 h
  have h2 : l.find? (fun x => decide (x.code = o.code)) = none := by rw [List.find?_eq_none]; simpa using this
  simp [findS, List.find?_append, h2]
theorem without_app {l : List Opt} {d : List UInt8} (h : findS l 52 = none) : withoutS (l ++ [⟨52, d⟩]) 52 = l := by
  have := find_none.1 h
  unfold withoutS
  rw [List.filter_append]
  have h2 : l.filter (fun o => decide (o.code ≠ 52)) = l := by rw [List.filter_eq_self]; simpa using this
  rw [h2]
  simp
theorem right_app {l : List Opt} (hr : rightO l = true) (h : findS l 52 = none) (hl : l.length < 60) : rightO (l ++ [⟨52, [3]⟩]) = true := by
  rw [rightO_iff] at hr ⊢
  refine ⟨by simp; omega, fun o ho => ?_, ?_⟩
  · rcases List.mem_append.1 ho with h1 | h1
    · exact hr.2.1 o h1
    · simp only [List.mem_singleton] at h1
      subst h1
      simp
  · rw [List.map_append, List.nodup_append]
    refine ⟨hr.2.2, by simp, fun a ha b hb e => ?_⟩
    simp at hb
    subst hb
    subst e
    obtain ⟨o, ho, e⟩ := List.mem_map.1 ha
    exact find_none.1 h o ho e
theorem more_of {l f : List Opt} {a z : List UInt8} (ha : a = writeO f ++ z) (hf : rightO f = true) (h52 : findS f 52 = none) : moreS l a = jnS l f := by
  unfold moreS
  rw [ha, rdS_write hf]
  rw [if_neg (by simp)]
  show (if (findS f 52).isSome = true then _ else _) = _
  rw [h52, Option.isSome_none, if_neg (by decide)]
/-- What the options are, of bytes with two areas. -/
def areasS (l f n : List Opt) : Int × List Opt := if (jnS l f).1 ≠ 0 then jnS l f else jnS (jnS l f).2 n
theorem areas {b : List UInt8} {l f n : List Opt} {z z1 z2 : List UInt8} (hb : b.drop 240 = writeO (l ++ [⟨52, [3]⟩]) ++ z) (h1 : (b.take 236).drop 108 = writeO f ++ z1) (h2 : (b.take 108).drop 44 = writeO n ++ z2)
    (hl : rightO l = true) (h52 : findS l 52 = none) (hl60 : l.length < 60) (hf : rightO f = true) (hn : rightO n = true) (hf52 : findS f 52 = none) (hn52 : findS n 52 = none) : optsS b = areasS l f n := by
  have hfind := find_app (l := l) (o := ⟨52, [3]⟩) h52
  unfold optsS
  rw [hb, rdS_write (right_app hl h52 hl60)]
  rw [if_neg (by simp)]
  have e3 : takeS (l ++ [⟨52, [3]⟩]) = (0, l, 3) := by
    rw [takeS_1 hfind, if_pos (by decide), without_app h52]
    rfl
  show (if (takeS (l ++ [⟨52, [3]⟩])).1 ≠ 0 then _ else _) = _
  rw [e3, if_neg (by simp)]
  show optsT l 3 b = _
  rw [optsT3, more_of h1 hf hf52, more_of h2 hn hn52]
  unfold areasS
  rfl
theorem areas_err {l f n : List Opt} (hl : rightO l = true) (hf : rightO f = true) (hn : rightO n = true) : (areasS l f n).1 = 0 ∨ (areasS l f n).2 = [] := by
  unfold areasS
  have h1 := jnS_err l f
  rcases h1 with h | h
  · rw [if_neg (by simp [h.1])]
    rcases jnS_err (jnS l f).2 n with h2 | h2
    · exact .inl h2.1
    · exact .inr h2.2
  · rw [if_pos (by rcases h.1 with h | h <;> rw [h] <;> decide)]
    exact .inr h.2
end Go.Proofs.YtimlalndjfmnbaaDoor
