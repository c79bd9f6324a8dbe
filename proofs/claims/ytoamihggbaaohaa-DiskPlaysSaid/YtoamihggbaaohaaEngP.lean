/- The order of a region's operations is of no account, where a check says so. -/
import Derived.Test.YtoamihggbaaohaaEngO
namespace BoEng
open Go Go.RowKit

/-- What an operation has to do with boxes. -/
def lvl0 (tr : List Nat) (o : Oper) : Nat :=
  match o.op with
  | .indexAddr .. => 2
  | .load .. => if isFz tr o then 5 else if isTr tr o then 3 else 2
  | .store .. => 4
  | .alloc .. => 5
  | .box .. => 5
  | .makeSlice .. => 5
  | .move _ => if isFz tr o then 5 else 0
  | .call ⟨.builtin .append, _, _⟩ => if isBx tr o then 5 else if isRd tr o then 2 else 0
  | .call ⟨.value _, _, _⟩ => if isCb tr o then 5 else 0
  | .buildSlice .. => if isBx tr o then 5 else 0
  | .build .. => if (nbOf tr o).isSome then 5 else 0
  | .convert .. => if isFz tr o then 5 else 0
  | _ => 0
def isNew : Op → Bool
  | .alloc .. => true
  | .box .. => true
  | .makeSlice .. => true
  | .buildSlice .. => true
  | .build .. => true
  | _ => false
def isBig : Op → Bool
  | .call ⟨.value _, _, _⟩ => true
  | _ => false
def lvlB (tr : List Nat) (o : Oper) : Nat :=
  if (isCs tr o && (csOp o.op).isSome) = true then 0
  else if (isCm tr o && (csOp o.op).isSome) = true then 6
  else if (isCl tr o && (csOp o.op).isSome) = true then 8
  else if (isNw tr o && isNew o.op) = true then 7
  else if (isOut tr o && isCb tr o && isBig o.op) = true then 9
  else lvl0 tr o
def lvl (tr : List Nat) (o : Oper) : Nat := match fpOf tr o with | some q => 20 + q.1 | none => match fpA tr o with | some d => 20 + d | none => lvlB tr o
theorem lvl0_le (tr : List Nat) (o : Oper) : lvl0 tr o ≤ 5 := by
  unfold lvl0
  split <;> first | omega | (split <;> first | omega | (split <;> omega))
/-- The slots whose own slices it takes. -/
def srcs (tr : List Nat) (o : Oper) : List (Nat × Option Nat) :=
  match o.op with
  | .assign (.tmp s) => [(s, none)]
  | .move (.tmp s) => if isTr tr o then [(s, none)] else []
  | .extract (.tmp s) k => [(s, some k)]
  | .store _ _ (.tmp s) => [(s, none)]
  | .call ⟨.builtin .append, args, _⟩ => match args.toList with | .tmp s :: _ => [(s, none)] | _ => []
  | .box _ (.tmp s) => if isOw tr o then [(s, none)] else []
  | .build _ ps => if isOw tr o then (match ps.toList with | (_, .tmp s) :: _ => [(s, none)] | _ => []) else []
  | .buildSlice _ _ ps => if isBx tr o then (match ps.toList with | (_, .tmp s) :: _ => [(s, none)] | _ => []) else []
  | _ => []

def lvlOk (x y : Nat) : Bool := (decide (x < 20) || (y == 0 || (decide (20 ≤ y) && x != y))) && (decide (y < 20) || (x == 0 || (decide (20 ≤ x) && x != y))) && (x != 5 || y == 0) && (y != 5 || x == 0) && (x != 4 || decide (y ≤ 1)) && (y != 4 || decide (x ≤ 1)) && !(x == 3 && y == 3) && (x != 7 || (y == 0 || y == 6)) && (y != 7 || (x == 0 || x == 6)) && (x != 9 || (y == 0 || y == 8)) && (y != 9 || (x == 0 || x == 8))
def srcOk (xs ys : List (Nat × Option Nat)) : Bool := xs.all fun p => ys.all fun q => !(p.1 == q.1 && (p.2 == none || q.2 == none || p.2 == q.2))
def indep (tr : List Nat) (ops : Array Oper) (x y : Oper) : Bool := x.apart ops y && lvlOk (lvl tr x) (lvl tr y) && srcOk (srcs tr x) (srcs tr y)

/-- Two states that are alike to an operation. -/
structure AlikeL (L : Nat) (tr : List Nat) (ops : Array Oper) (o : Oper) (S S2 : PS) : Prop where
  fo : S2.fo = S.fo
  t : ∀ i, i ∈ o.looksAt ops → S2.t i = S.t i
  gen : 1 ≤ L → L ≠ 6 → L ≠ 8 → L < 20 → S2.gen = S.gen
  box : 2 ≤ L → L ≠ 6 → L ≠ 8 → L < 20 → S2.box = S.box
  calm : L = 6 → ∀ n, nws tr S.fo n = true → S2.gen n = S.gen n ∧ S2.box n = S.box n
  near : L = 8 → ∀ n, nws tr S.fo n = false → S2.gen n = S.gen n ∧ S2.box n = S.box n
  bown : 3 ≤ L → L ≠ 6 → L ≠ 8 → L < 20 → ∀ n k, S2.own (.b n k) = S.own (.b n k)
  fp : ∀ m, L = 20 + m → S2.gen (S.fo + m) = S.gen (S.fo + m) ∧ S2.box (S.fo + m) = S.box (S.fo + m) ∧ ∀ k, S2.own (.b (S.fo + m) k) = S.own (.b (S.fo + m) k)
  own : ∀ s k, (s, k) ∈ srcs tr o → ∀ j, (k = none ∨ k = some j) → S2.own (.t s j) = S.own (.t s j)
abbrev Alike (tr : List Nat) (ops : Array Oper) (o : Oper) (S S2 : PS) : Prop := AlikeL (lvl tr o) tr ops o S S2

section
variable {P : Program} {N : Nat} {tr : List Nat} {ops : Array Oper} {o : Oper} {S S2 : PS}

theorem AlikeL.ev {L : Nat} (h : AlikeL L tr ops o S S2) {x : Operand} (hx : x ∈ o.op.operands.toList) : S2.ev x = S.ev x := by
  cases x with
  | tmp t =>
    refine h.t t ?_
    unfold Oper.looksAt
    exact List.mem_append.2 (.inl (List.mem_filterMap.2 ⟨.tmp t, hx, rfl⟩))
  | const v => rfl
  | global g => rfl
  | func f => rfl

theorem bnd_congr {top : Nat} {x : Operand} (h : S2.ev x = S.ev x) : bnd S2 top x = bnd S top x := by unfold bnd; rw [h]
theorem loB_congr {top : Nat} {x : Option Operand} (h : ∀ v, x = some v → S2.ev v = S.ev v) : loB S2 top x = loB S top x := by
  cases x with
  | none => rfl
  | some v => exact bnd_congr (h v rfl)
theorem hiB_congr {top : Nat} {x : Option Operand} (h : ∀ v, x = some v → S2.ev v = S.ev v) : hiB S2 top x = hiB S top x := by
  cases x with
  | none => rfl
  | some v => exact bnd_congr (h v rfl)
theorem buildP_congr {t : TypeId} : ∀ (ps : List (Nat × Operand)) (cs : List PV), (∀ p ∈ ps, S2.ev p.2 = S.ev p.2) → buildP P S2 t ps cs = buildP P S t ps cs
  | [], cs, _ => rfl
  | (i, x) :: r, cs, h => by
    have ih : ∀ cs, buildP P S2 t r cs = buildP P S t r cs := fun cs => buildP_congr r cs fun p hp => h p (List.mem_cons_of_mem _ hp)
    have hx : S2.ev x = S.ev x := h (i, x) List.mem_cons_self
    unfold buildP
    simp only [hx, ih]
theorem elemsD_congr {sz : Nat} : ∀ (ps : List (Nat × Operand)) (k : Nat), (∀ p ∈ ps, S2.ev p.2 = S.ev p.2) → elemsD S2 sz k ps = elemsD S sz k ps
  | [], k, _ => rfl
  | (i, x) :: r, k, h => by
    have ih : ∀ k, elemsD S2 sz k r = elemsD S sz k r := fun k => elemsD_congr r k fun p hp => h p (List.mem_cons_of_mem _ hp)
    have hx : S2.ev x = S.ev x := h (i, x) List.mem_cons_self
    unfold elemsD
    simp only [hx, ih]
theorem sliceD_congr {t : TypeId} {x : Operand} {lo hi mx : Option Operand} (hx : S2.ev x = S.ev x) (h1 : ∀ v, lo = some v → S2.ev v = S.ev v) (h2 : ∀ v, hi = some v → S2.ev v = S.ev v) (h3 : ∀ v, mx = some v → S2.ev v = S.ev v) :
    sliceD P S2 t x lo hi mx = sliceD P S t x lo hi mx := by
  unfold sliceD
  simp only [hx, hiB_congr h2, loB_congr h1]
  cases mx with
  | none => rfl
  | some m =>
    simp only [bnd_congr (h3 m rfl)]
    cases hi with
    | none => rfl
    | some v => simp only [bnd_congr (h2 v rfl)]
theorem map_ev_congr {l : List Operand} (h : ∀ x ∈ l, S2.ev x = S.ev x) : l.map S2.ev = l.map S.ev := List.map_congr_left h

theorem effV_congr (h : AlikeL (lvl0 tr o) tr ops o S S2) : effV P S2 o = effV P S o := by
  have he : ∀ x, x ∈ o.op.operands.toList → S2.ev x = S.ev x := fun x hx => h.ev hx
  have hl := fun k : 1 ≤ lvl0 tr o => h.gen k (by have := lvl0_le tr o; omega) (by have := lvl0_le tr o; omega) (by have := lvl0_le tr o; omega)
  have hb := fun k : 2 ≤ lvl0 tr o => h.box k (by have := lvl0_le tr o; omega) (by have := lvl0_le tr o; omega) (by have := lvl0_le tr o; omega)
  unfold lvl0 at hl hb
  unfold effV
  cases ho : o.op with
  | pick c x y => simp only [ho, Op.operands] at he; simp only [he c (by simp), he x (by simp), he y (by simp)]
  | nilCheck x => simp only [ho, Op.operands] at he; simp only [he x (by simp)]
  | binOp op t x y t' => simp only [ho, Op.operands] at he; simp only [he x (by simp), he y (by simp)]
  | unOp op t x => simp only [ho, Op.operands] at he; simp only [he x (by simp)]
  | fieldAddr t x f => simp only [ho, Op.operands] at he; simp only [he x (by simp)]
  | field t x f => simp only [ho, Op.operands] at he; simp only [he x (by simp)]
  | indexAddr t x i => simp only [ho, Op.operands] at he hl hb; simp only [he x (by simp), he i (by simp), hl (by omega), hb (by omega)]
  | index t x i => simp only [ho, Op.operands] at he; simp only [he x (by simp), he i (by simp)]
  | slice t x lo hi mx =>
    simp only [ho, Op.operands] at he
    exact sliceD_congr (he x (by simp)) (fun v e => he v (by simp [e])) (fun v e => he v (by simp [e])) (fun v e => he v (by simp [e]))
  | build t ps =>
    simp only [ho, Op.operands] at he
    have : ∀ cs, buildP P S2 t ps.toList cs = buildP P S t ps.toList cs := fun cs => buildP_congr _ _ fun p hp => he p.2 (by simpa using List.mem_map_of_mem (f := (·.2)) hp)
    simp only [this]
  | buildSlice t len ps =>
    simp only [ho, Op.operands] at he
    have : ∀ k sz, elemsD S2 sz k ps.toList = elemsD S sz k ps.toList := fun k sz => elemsD_congr _ _ fun p hp => he p.2 (by simpa using List.mem_map_of_mem (f := (·.2)) hp)
    simp only [this]
  | makeFunc fn first caps =>
    simp only [ho, Op.operands] at he
    have : caps.toList.map S2.ev = caps.toList.map S.ev := map_ev_congr fun x hx => he x (by simp at hx ⊢; exact .inr hx)
    cases fn <;> simp only [this]
  | convert src dst x => simp only [ho, Op.operands] at he; simp only [he x (by simp)]
  | call c =>
    obtain ⟨cal, args, ts⟩ := c
    simp only [ho, Op.operands] at he
    have hm : args.toList.map S2.ev = args.toList.map S.ev := map_ev_congr fun x hx => he x (by simp [Call.operands] at hx ⊢; first | exact hx | exact .inr hx)
    cases cal with
    | builtin b =>
      cases b <;> try rfl
      · have : ∀ x, args.toList = [x] → S2.ev x = S.ev x := fun x e => he x (by simp [Call.operands]; rw [← Array.mem_toList_iff, e]; simp)
        have hh : ∀ l, args.toList = l → (match l, ts.toList with
            | [x], [t] => (match P.underlying t, S2.ev x with
              | some (.slice _), .d (.slice xs) => some (PV.d (.int .i64 xs.length), false)
              | some (.slice _), .bsl _ _ n _ _ => some (.d (.int .i64 n), false)
              | some .string, .d (.str s) => some (.d (.int .i64 s.length), false)
              | _, _ => none)
            | _, _ => none) = (match l, ts.toList with
            | [x], [t] => (match P.underlying t, S.ev x with
              | some (.slice _), .d (.slice xs) => some (PV.d (.int .i64 xs.length), false)
              | some (.slice _), .bsl _ _ n _ _ => some (.d (.int .i64 n), false)
              | some .string, .d (.str s) => some (.d (.int .i64 s.length), false)
              | _, _ => none)
            | _, _ => none) := by
          intro l hl
          split
          · rename_i x _
            first
              | rw [this _ hl]
          · rfl
        exact hh _ rfl
      · simp only [hm]
      · simp only [hm]
    | _ => rfl
  | _ => rfl

theorem thawed_congr {n g len sz : Nat} {ag : Bool} (hg : S2.gen = S.gen) (hb : S2.box = S.box) : thawed S2 n g len sz ag = thawed S n g len sz ag := by
  unfold thawed
  rw [hg, hb]
theorem frzC_congr (hg : S2.gen = S.gen) (hb : S2.box = S.box) (c : PV) : frzC S2 c = frzC S c := by
  unfold frzC
  cases c <;> simp only [thawed_congr hg hb]
theorem frzL_congr (hg : S2.gen = S.gen) (hb : S2.box = S.box) : ∀ (cs : List PV), frzL S2 cs = frzL S cs
  | [] => rfl
  | c :: r => by simp only [frzL, frzC_congr hg hb, frzL_congr hg hb r]
theorem frzE_congr (hg : S2.gen = S.gen) (hb : S2.box = S.box) (c : PV) : frzE o S2 c = frzE o S c := by
  have : frzV S2 c = frzV S c := by
    unfold frzV
    cases c <;> simp only [frzL_congr hg hb, frzC_congr hg hb]
  unfold frzE kill
  rw [this, hg]
theorem appSrc_congr {rd : Bool} {e : TypeId} {x : Operand} {tx : TypeId} (hx : S2.ev x = S.ev x) (hrd : rd = true → S2.gen = S.gen ∧ S2.box = S.box) : appSrc P rd S2 e x tx = appSrc P rd S e x tx := by
  unfold appSrc
  rw [hx]
  cases rd with
  | true =>
    obtain ⟨hg, hb⟩ := hrd rfl
    simp only [thawed_congr hg hb]
  | false => simp only [Bool.false_eq_true, if_false]
theorem appEff_congr {args : List Operand} {ts : List TypeId} (he : ∀ x ∈ args, S2.ev x = S.ev x) (hown : ∀ s, args.head? = some (.tmp s) → S2.own (.t s 0) = S.own (.t s 0))
    (hrd : isRd tr o = true → S2.gen = S.gen ∧ S2.box = S.box) (hbx : isBx tr o = true → S2.gen = S.gen ∧ S2.box = S.box ∧ ∀ n k, S2.own (.b n k) = S.own (.b n k)) (hfo : S2.fo = S.fo) : appEff P tr S2 o args ts = appEff P tr S o args ts := by
  unfold appEff
  split
  · rename_i s x t tx
    have h1 : S2.t s = S.t s := he (.tmp s) (by simp)
    have h2 : ∀ e, appSrc P (isRd tr o) S2 e x tx = appSrc P (isRd tr o) S e x tx := fun e => appSrc_congr (he x (by simp)) hrd
    simp only [h1, h2, hown s rfl]
    by_cases hb : isBx tr o = true
    · obtain ⟨q1, q2, q3⟩ := hbx hb
      simp only [q1, q2, q3, hfo]
    · have hb' : isBx tr o = false := by simpa using hb
      simp only [hb', Bool.false_eq_true, if_false, and_false]
  · rfl

theorem effF0_congr (h : AlikeL (lvl0 tr o) tr ops o S S2) : effF0 P N tr S2 o = effF0 P N tr S o := by
  have he : ∀ x, x ∈ o.op.operands.toList → S2.ev x = S.ev x := fun x hx => h.ev hx
  have hl := fun k : 1 ≤ lvl0 tr o => h.gen k (by have := lvl0_le tr o; omega) (by have := lvl0_le tr o; omega) (by have := lvl0_le tr o; omega)
  have hb := fun k : 2 ≤ lvl0 tr o => h.box k (by have := lvl0_le tr o; omega) (by have := lvl0_le tr o; omega) (by have := lvl0_le tr o; omega)
  have hbo := fun k : 3 ≤ lvl0 tr o => h.bown k (by have := lvl0_le tr o; omega) (by have := lvl0_le tr o; omega) (by have := lvl0_le tr o; omega)
  have hs := h.own
  have hV := effV_congr (P := P) h
  unfold lvl0 at hl hb hbo
  unfold srcs at hs
  unfold effF0
  split
  · cases ho : o.op with
    | assign x =>
      simp only [ho, Op.operands] at he hs
      simp only
      unfold mvEff
      cases x with
      | tmp s =>
        have e1 : S2.t s = S.t s := he (.tmp s) (by simp)
        have e2 : (fun j => S2.own (.t s j)) = fun j => S.own (.t s j) := funext fun j => hs s none (by simp) j (.inl rfl)
        simp only [e1, e2]
      | const v => rfl
      | global g => rfl
      | func f => rfl
    | move x =>
      simp only [ho, Op.operands] at he hs hl hb
      simp only
      by_cases hfz : isFz tr o = true
      · have hg : S2.gen = S.gen := hl (by rw [if_pos hfz]; omega)
        have hbx : S2.box = S.box := hb (by rw [if_pos hfz]; omega)
        simp only [if_pos hfz, he x (by simp), frzE_congr hg hbx]
      · simp only [if_neg hfz]
        unfold mvEff
        cases x with
        | tmp s =>
          have e1 : S2.t s = S.t s := he (.tmp s) (by simp)
          by_cases ht : isTr tr o = true
          · have e2 : (fun j => S2.own (.t s j)) = fun j => S.own (.t s j) := funext fun j => hs s none (by simp [ht]) j (.inl rfl)
            simp only [e1, e2]
          · simp only [e1, if_neg ht]
        | const v => rfl
        | global g => rfl
        | func f => rfl
    | extract x k =>
      simp only [ho, Op.operands] at he hs
      cases x with
      | tmp s =>
        have e1 : S2.t s = S.t s := he (.tmp s) (by simp)
        have e2 : S2.own (.t s k) = S.own (.t s k) := hs s (some k) (by simp) k (.inr rfl)
        simp only [e1, e2]
      | _ => rfl
    | load t x =>
      simp only [ho, Op.operands] at he hl hb hbo
      have hg : S2.gen = S.gen := hl (by split <;> first | omega | (split <;> omega))
      have hbx : S2.box = S.box := hb (by split <;> first | omega | (split <;> omega))
      have e1 : loadPV P S2 t x = loadPV P S t x := by unfold loadPV; rw [he x (by simp), hg, hbx]
      by_cases hfz : isFz tr o = true
      · simp only [e1, if_pos hfz, frzE_congr hg hbx]
      · simp only [if_neg hfz]
        by_cases ht : isTr tr o = true
        · have e2 : ∀ n k, S2.own (.b n k) = S.own (.b n k) := hbo (by rw [if_neg hfz, if_pos ht]; omega)
          simp only [e1, he x (by simp), e2]
        · simp only [e1, if_neg ht]
    | alloc e =>
      simp only [ho] at hl
      simp only [hl (by omega), h.fo]
    | box e x =>
      simp only [ho, Op.operands] at hl he hs
      have h1 : ∀ d cs, isOw tr o = true → boxOw S2 d x cs = boxOw S d x cs := by
        intro d cs how
        cases x with
        | tmp s =>
          have e2 : ∀ k, S2.own (.t s k) = S.own (.t s k) := fun k => hs s none (by simp [how]) k (.inl rfl)
          simp only [boxOw, hl (by omega), h.fo, e2]
        | _ => rfl
      simp only [hl (by omega), he x (by simp), h.fo]
      by_cases how : isOw tr o = true
      · simp only [if_pos how, h1 _ _ how]
      · simp only [if_neg how]
    | makeSlice t l c =>
      simp only [ho, Op.operands] at hl he
      simp only [hl (by omega), he l (by simp), he c (by simp), h.fo]
    | store t x v =>
      simp only [ho, Op.operands] at hl he hb hbo hs
      have e2 : ∀ n k, S2.own (.b n k) = S.own (.b n k) := hbo (by omega)
      simp only [hl (by omega), hb (by omega), he x (by simp), he v (by simp), e2]
      cases v with
      | tmp s =>
        have e3 : S2.own (.t s 0) = S.own (.t s 0) := hs s none (by simp) 0 (.inl rfl)
        simp only [e3]
      | _ => rfl
    | call c =>
      obtain ⟨cal, args, ts⟩ := c
      cases cal with
      | builtin b =>
        cases b <;> first
          | (simp only [hV]; done)
          | (simp only [ho, Op.operands] at he hs hl hb hbo
             have hap : appEff P tr S2 o args.toList ts.toList = appEff P tr S o args.toList ts.toList := by
              refine appEff_congr ?_ ?_ (fun hrd => ?_) (fun hbx => ?_) h.fo 
              · exact fun x hx => he x (by simp [Call.operands] at hx ⊢; first | exact hx | exact .inr hx)
              · intro s hsd
                cases ha : args.toList with
                | nil => rw [ha] at hsd; cases hsd
                | cons y r =>
                  rw [ha] at hsd
                  cases hsd
                  exact hs s none (by simp [ha]) 0 (.inl rfl)
              · have hle : 2 ≤ (if isBx tr o = true then 5 else if isRd tr o = true then 2 else 0) := by rw [hrd]; split <;> simp
                exact ⟨hl (by omega), hb (by omega)⟩
              · have hle : 3 ≤ (if isBx tr o = true then 5 else if isRd tr o = true then 2 else 0) := by rw [hbx]; simp
                exact ⟨hl (by omega), hb (by omega), hbo (by omega)⟩
             by_cases how : isOw tr o = true
             · simp only [if_pos how]
               by_cases hbx : isBx tr o = true
               · have hle : 3 ≤ (if isBx tr o = true then 5 else if isRd tr o = true then 2 else 0) := by rw [hbx]; simp
                 have q1 : S2.gen = S.gen := hl (by omega)
                 have q2 : S2.box = S.box := hb (by omega)
                 have q3 : ∀ n k, S2.own (.b n k) = S.own (.b n k) := hbo (by omega)
                 have h1 : srcBsl S2 args.toList = srcBsl S args.toList := by
                   unfold srcBsl
                   cases ha : args.toList with
                   | nil => rfl
                   | cons y r =>
                     cases r with
                     | nil => rfl
                     | cons x r2 =>
                       cases r2 with
                       | cons _ _ => rfl
                       | nil =>
                         have hx : x ∈ args.toList := by rw [ha]; simp
                         have : S2.ev x = S.ev x := he x (by simp [Call.operands] at hx ⊢; first | exact hx | exact .inr hx)
                         simp only [this, q1, q2]
                 have h2 : giveOwn S2 = giveOwn S := by
                   funext m E
                   simp only [giveOwn, q1, q2, q3]
                 rw [h1, hap, h2]
               · have hbx' : isBx tr o = false := by simpa using hbx
                 simp only [hbx', Bool.false_eq_true, and_false, if_false]
                 cases srcBsl S2 args.toList <;> cases srcBsl S args.toList <;> rfl
             · simp only [if_neg how]
               exact hap)
      | _ => simp only [hV]
    | build t ps =>
      simp only [ho, Op.operands] at he hs hl
      simp only [hV]
      by_cases hnb : (nbOf tr o).isSome = true
      · simp only [if_pos hnb] at hl ⊢
        unfold nbEff
        rw [hl (by omega), h.fo, hV]
      simp only [if_neg hnb]
      by_cases how : isOw tr o = true
      · simp only [if_pos how] at hs ⊢
        congr 1
        funext r
        cases hp : ps.toList with
        | nil => simp [buildOw]
        | cons q r =>
          obtain ⟨i, x⟩ := q
          cases x with
          | tmp s =>
            rw [hp] at hs
            have hx : ∃ i, (i, Operand.tmp s) ∈ ps.toList := ⟨i, by rw [hp]; simp⟩
            have e1 : S2.t s = S.t s := he (.tmp s) (by obtain ⟨i, hi⟩ := hx; simp at hi ⊢; exact ⟨i, hi⟩)
            have e2 : S2.own (.t s 0) = S.own (.t s 0) := hs s none (by simp) 0 (.inl rfl)
            have e3 : buildOw P S2 t ((i, .tmp s) :: r) = buildOw P S t ((i, .tmp s) :: r) := by
              simp only [buildOw, e1]
            rw [e3]
            cases hbo : buildOw P S t ((i, .tmp s) :: r) with
            | none => rfl
            | some s' =>
              have : s' = s := by
                unfold buildOw at hbo
                simp only at hbo
                split at hbo
                · split at hbo
                  · cases hbo; rfl
                  · cases hbo
                · cases hbo
              subst this
              simp only [e2]
          | _ => simp [buildOw]
      · simp only [if_neg how]
    | buildSlice t len ps =>
      simp only [ho, Op.operands] at he hs hl
      simp only [hV]
      by_cases hbx : isBx tr o = true
      · simp only [if_pos hbx] at hs hl ⊢
        have q1 : S2.gen = S.gen := hl (by omega)
        have hE : bsl2Eff P S2 o t len ps = bsl2Eff P S o t len ps := by
          have : ∀ k sz, elemsD S2 sz k ps.toList = elemsD S sz k ps.toList := fun k sz => elemsD_congr _ _ fun p hp => he p.2 (by simpa using List.mem_map_of_mem (f := (·.2)) hp)
          unfold bsl2Eff
          simp only [this, q1, h.fo]
        rw [hE]
        congr 1
        unfold bslEff
        cases o.dst with
        | none => rfl
        | some d =>
          cases elT P t with
          | none => rfl
          | some e =>
            cases hp : ps.toList with
            | nil => rfl
            | cons q r =>
              obtain ⟨i, x⟩ := q
              cases x with
              | tmp s =>
                rw [hp] at hs
                have hx : ∃ i, (i, Operand.tmp s) ∈ ps.toList := ⟨i, by rw [hp]; simp⟩
                have e1 : S2.t s = S.t s := he (.tmp s) (by obtain ⟨i, hi⟩ := hx; simp at hi ⊢; exact ⟨i, hi⟩)
                have e2 : ∀ k, S2.own (.t s k) = S.own (.t s k) := fun k => hs s none (by simp) k (.inl rfl)
                cases r with
                | nil => simp only [e1, e2, q1, h.fo]
                | cons _ _ => rfl
              | _ => rfl
      · simp only [if_neg hbx]
    | convert src dst x =>
      simp only [ho, Op.operands] at he hl hb
      by_cases hfz : isFz tr o = true
      · have hg : S2.gen = S.gen := hl (by rw [if_pos hfz]; omega)
        have hbx : S2.box = S.box := hb (by rw [if_pos hfz]; omega)
        simp only [if_pos hfz, cvfEff, he x (by simp), frzE_congr hg hbx]
      · simp only [if_neg hfz, hV]
    | _ => simp only [hV]
  · rfl

theorem csOk_congr (h : Alike tr ops o S S2) : csOk tr S2 o = csOk tr S o := by
  unfold csOk
  cases hc : csOp o.op with
  | none => rfl
  | some x =>
    have hx : x ∈ o.op.operands.toList := by
      cases ho : o.op <;> rw [ho] at hc <;> simp [csOp] at hc <;> subst hc <;> simp [Op.operands]
    simp only [h.ev hx, h.fo]
theorem fpOf_mem {q : Nat × Operand} (h : fpOf tr o = some q) : q.2 ∈ o.op.operands.toList := by
  unfold fpOf at h
  split at h
  · rename_i ho
    split at h
    · rw [Option.map_eq_some_iff] at h
      obtain ⟨m, _, rfl⟩ := h
      rw [ho]; simp [Op.operands]
    · cases h
  · rename_i ho
    split at h
    · rw [Option.map_eq_some_iff] at h
      obtain ⟨m, _, rfl⟩ := h
      rw [ho]; simp [Op.operands]
    · cases h
  · rename_i ho
    rw [Option.map_eq_some_iff] at h
    obtain ⟨m, _, rfl⟩ := h
    rw [ho]; simp [Op.operands]
  · cases h
theorem fpOf_cs {q : Nat × Operand} (h : fpOf tr o = some q) : csOp o.op = some q.2 ∨ ∃ t s, o.op = .store t q.2 (.tmp s) := by
  unfold fpOf at h
  split at h
  · rename_i ho
    split at h
    · rw [Option.map_eq_some_iff] at h
      obtain ⟨m, _, rfl⟩ := h
      rw [ho]; exact .inl rfl
    · cases h
  · rename_i ho
    split at h
    · rw [Option.map_eq_some_iff] at h
      obtain ⟨m, _, rfl⟩ := h
      rw [ho]; exact .inl rfl
    · cases h
  · rename_i ho
    rw [Option.map_eq_some_iff] at h
    obtain ⟨m, _, rfl⟩ := h
    exact .inr ⟨_, _, ho⟩
  · cases h
theorem fpCk_congr (h : Alike tr ops o S S2) : fpCk tr S2 o = fpCk tr S o := by
  unfold fpCk
  cases hq : fpOf tr o with
  | none => rfl
  | some q =>
    simp only [h.ev (fpOf_mem hq), h.fo]
theorem fpCk_1 {q : Nat × Operand} (hq : fpOf tr o = some q) (h : fpCk tr S o = true) : atBox (S.fo + q.1) (S.ev q.2) = true ∧ ((csOp o.op).isSome = true → isTr tr o = false ∧ isFz tr o = false) := by
  unfold fpCk at h
  rw [hq] at h
  simp only [Bool.and_eq_true, Bool.or_eq_true, Bool.not_eq_true'] at h
  refine ⟨h.1, fun hs => ?_⟩
  rcases h.2 with h2 | h2
  · rw [Option.isNone_iff_eq_none] at h2
    rw [h2] at hs
    cases hs
  · exact h2
theorem fpA_spec {d : Nat} (h : fpA tr o = some d) : (∃ e, o.op = .alloc e) ∧ o.dst = some d := by
  unfold fpA at h
  split at h
  · rename_i e ho
    split at h
    · rename_i d' hd
      split at h
      · cases h
        exact ⟨⟨e, ho⟩, hd⟩
      · cases h
    · cases h
  · cases h
theorem csOk_1 {x : Operand} (hx : csOp o.op = some x) (hc : isCs tr o = true) (h : csOk tr S o = true) : isCst (S.ev x) = true ∧ isTr tr o = false ∧ isFz tr o = false := by
  unfold csOk at h
  simp only [hx, hc, Bool.not_true, Bool.false_or, Bool.and_eq_true, Bool.not_eq_true'] at h
  exact ⟨h.1.1.1.1, h.1.1.1.2, h.1.1.2⟩
theorem csOk_2 {x : Operand} (hx : csOp o.op = some x) (hc : isCm tr o = true) (h : csOk tr S o = true) : cmOk tr S.fo (S.ev x) = true ∧ isTr tr o = false ∧ isFz tr o = false := by
  unfold csOk at h
  simp only [hx, hc, Bool.not_true, Bool.false_or, Bool.and_eq_true, Bool.not_eq_true'] at h
  exact ⟨h.1.2.1.1, h.1.2.1.2, h.1.2.2⟩
theorem csOk_3 {x : Operand} (hx : csOp o.op = some x) (hc : isCl tr o = true) (h : csOk tr S o = true) : clOk tr S.fo (S.ev x) = true ∧ isTr tr o = false ∧ isFz tr o = false := by
  unfold csOk at h
  simp only [hx, hc, Bool.not_true, Bool.false_or, Bool.and_eq_true, Bool.not_eq_true'] at h
  exact ⟨h.2.1.1, h.2.1.2, h.2.2⟩
/-- What is told of a place hangs on its box alone. -/
theorem effF0_box {x : Operand} (hx : csOp o.op = some x) (he : ∀ x, x ∈ o.op.operands.toList → S2.ev x = S.ev x) (ht : isTr tr o = false) (hf : isFz tr o = false)
    (hb : ∀ n, (∃ g k, S.ev x = .ptr n g k) ∨ (∃ g l z b, S.ev x = .bsl n g l z b) → S2.gen n = S.gen n ∧ S2.box n = S.box n) : effF0 P N tr S2 o = effF0 P N tr S o := by
  have e1 : ∀ n g k, S.ev x = .ptr n g k → S2.gen n = S.gen n := fun n g k h => (hb n (.inl ⟨g, k, h⟩)).1
  have e2 : ∀ n g k, S.ev x = .ptr n g k → S2.box n = S.box n := fun n g k h => (hb n (.inl ⟨g, k, h⟩)).2
  have e3 : ∀ n g l z b, S.ev x = .bsl n g l z b → S2.gen n = S.gen n := fun n g l z b h => (hb n (.inr ⟨g, l, z, b, h⟩)).1
  have e4 : ∀ n g l z b, S.ev x = .bsl n g l z b → S2.box n = S.box n := fun n g l z b h => (hb n (.inr ⟨g, l, z, b, h⟩)).2
  clear hb
  cases ho : o.op with
  | indexAddr t y i =>
    rw [ho] at hx
    cases hx
    simp only [ho, Op.operands] at he
    unfold effF0 effV
    simp only [ho, he x (by simp), he i (by simp)]
    cases hv : S.ev x with
    | bsl n g l z b =>
      cases elT P t with
      | none => rfl
      | some q =>
        cases S.ev i with
        | d y =>
          cases y with
          | int k v => simp only [e3 n g l z b hv, e4 n g l z b hv]
          | _ => rfl
        | _ => rfl
    | ptr n g k => cases elT P t <;> cases S.ev i <;> first | rfl | (rename_i y; cases y <;> rfl)
    | d y => cases y <;> cases elT P t <;> cases S.ev i <;> first | rfl | (rename_i y; cases y <;> rfl)
    | _ => cases elT P t <;> cases S.ev i <;> first | rfl | (rename_i y; cases y <;> rfl)
  | load t y =>
    rw [ho] at hx
    cases hx
    simp only [ho, Op.operands] at he
    unfold effF0 loadPV
    simp only [ho, he x (by simp), ht, hf]
    cases hv : S.ev x with
    | ptr n g k => simp only [e1 n g k hv, e2 n g k hv]; rfl
    | _ => rfl
  | _ => rw [ho] at hx; simp [csOp] at hx
/-- A store hangs on its box alone. -/
theorem effF0_store {t : TypeId} {x : Operand} {s : Nat} (ho : o.op = .store t x (.tmp s)) (hx : S2.ev x = S.ev x) (hs : S2.t s = S.t s) (hos : S2.own (.t s 0) = S.own (.t s 0))
    (hb : ∀ n g k, S.ev x = .ptr n g k → S2.gen n = S.gen n ∧ S2.box n = S.box n ∧ ∀ k, S2.own (.b n k) = S.own (.b n k)) : effF0 P N tr S2 o = effF0 P N tr S o := by
  have hv : S2.ev (.tmp s) = S.ev (.tmp s) := hs
  unfold effF0
  simp only [ho, hx, hv]
  cases hp : S.ev x with
  | ptr n g k =>
    obtain ⟨q1, q2, q3⟩ := hb n g k hp
    cases o.dst with
    | some d => cases pcells (S.ev (.tmp s)) <;> rfl
    | none =>
      cases pcells (S.ev (.tmp s)) with
      | none => rfl
      | some cs => simp only [q1, q2, q3, hos]
  | _ => cases o.dst <;> cases pcells (S.ev (.tmp s)) <;> rfl
theorem effF_congr (h : Alike tr ops o S S2) : effF P N tr S2 o = effF P N tr S o := by
  unfold effF
  rw [csOk_congr h, fpCk_congr h]
  by_cases hok0 : (csOk tr S o && fpCk tr S o) = true
  · rw [if_pos hok0, if_pos hok0]
    have hok := (Bool.and_eq_true_iff.1 hok0).1
    have he : ∀ x, x ∈ o.op.operands.toList → S2.ev x = S.ev x := fun x hx => h.ev hx
    cases hq : fpOf tr o with
    | some q =>
      have hl : lvl tr o = 20 + q.1 := by simp [lvl, hq]
      obtain ⟨hat, hnt⟩ := fpCk_1 hq (Bool.and_eq_true_iff.1 hok0).2
      obtain ⟨g1, g2, g3⟩ := h.fp q.1 hl
      have hnm : ∀ n, ((∃ g k, S.ev q.2 = .ptr n g k) ∨ (∃ g l z b, S.ev q.2 = .bsl n g l z b)) → n = S.fo + q.1 := by
        rintro n (⟨g, k, e⟩ | ⟨g, l, z, b, e⟩) <;> rw [e] at hat <;> simpa [atBox] using hat
      rcases fpOf_cs hq with hc | ⟨t, s, ho⟩
      · obtain ⟨n1, n2⟩ := hnt (by rw [hc]; rfl)
        refine effF0_box hc he n1 n2 fun n hn => ?_
        rw [hnm n hn]
        exact ⟨g1, g2⟩
      · refine effF0_store ho (he _ (by rw [ho]; simp [Op.operands])) (he (.tmp s) (by rw [ho]; simp [Op.operands])) (h.own s none (by simp [srcs, ho]) 0 (.inl rfl)) fun n g k e => ?_
        rw [hnm n (.inl ⟨g, k, e⟩)]
        exact ⟨g1, g2, g3⟩
    | none =>
    cases hA : fpA tr o with
    | some d =>
      have hl : lvl tr o = 20 + d := by simp [lvl, hq, hA]
      obtain ⟨⟨e, ho⟩, hdd⟩ := fpA_spec hA
      obtain ⟨g1, _, _⟩ := h.fp d hl
      unfold effF0
      simp only [ho, hdd, h.fo]
      cases zeroT P e with
      | none => rfl
      | some z => simp only [g1]
    | none =>
    have hlv : lvl tr o = (if (isCs tr o && (csOp o.op).isSome) = true then 0 else if (isCm tr o && (csOp o.op).isSome) = true then 6 else if (isCl tr o && (csOp o.op).isSome) = true then 8 else if (isNw tr o && isNew o.op) = true then 7 else if (isOut tr o && isCb tr o && isBig o.op) = true then 9 else lvl0 tr o) := by simp only [lvl, hq, hA, lvlB]
    by_cases hcs : (isCs tr o && (csOp o.op).isSome) = true
    · have hcs2 := Bool.and_eq_true_iff.1 hcs
      obtain ⟨x, hx⟩ := Option.isSome_iff_exists.1 hcs2.2
      obtain ⟨q1, q2, q3⟩ := csOk_1 hx hcs2.1 hok
      refine effF0_box hx he q2 q3 fun n hn => ?_
      rcases hn with ⟨g, k, e⟩ | ⟨g, l, z, b, e⟩ <;> rw [e] at q1 <;> simp [isCst] at q1
    · rw [if_neg hcs] at hlv
      by_cases hcm : (isCm tr o && (csOp o.op).isSome) = true
      · rw [if_pos hcm] at hlv
        have hcm2 := Bool.and_eq_true_iff.1 hcm
        obtain ⟨x, hx⟩ := Option.isSome_iff_exists.1 hcm2.2
        obtain ⟨q1, q2, q3⟩ := csOk_2 hx hcm2.1 hok
        refine effF0_box hx he q2 q3 fun n hn => ?_
        refine h.calm hlv n ?_
        rcases hn with ⟨g, k, e⟩ | ⟨g, l, z, b, e⟩ <;> rw [e] at q1 <;> exact q1
      · rw [if_neg hcm] at hlv
        by_cases hcl : (isCl tr o && (csOp o.op).isSome) = true
        · rw [if_pos hcl] at hlv
          have hcl2 := Bool.and_eq_true_iff.1 hcl
          obtain ⟨x, hx⟩ := Option.isSome_iff_exists.1 hcl2.2
          obtain ⟨q1, q2, q3⟩ := csOk_3 hx hcl2.1 hok
          refine effF0_box hx he q2 q3 fun n hn => ?_
          refine h.near hlv n ?_
          rcases hn with ⟨g, k, e⟩ | ⟨g, l, z, b, e⟩ <;> rw [e] at q1 <;> simpa [clOk] using q1
        rw [if_neg hcl] at hlv
        by_cases hnw : (isNw tr o && isNew o.op) = true
        · rw [if_pos hnw] at hlv
          have h7 := h
          unfold Alike at h7
          rw [hlv] at h7
          exact effF0_congr ⟨h7.fo, h7.t, fun _ _ _ _ => h7.gen (by omega) (by omega) (by omega) (by omega), fun _ _ _ _ => h7.box (by omega) (by omega) (by omega) (by omega), fun e => absurd e (by have := lvl0_le tr o; omega), fun e => absurd e (by have := lvl0_le tr o; omega), fun _ _ _ _ => h7.bown (by omega) (by omega) (by omega) (by omega), fun m e => absurd e (by have := lvl0_le tr o; omega), h7.own⟩
        · rw [if_neg hnw] at hlv
          by_cases hbg : (isOut tr o && isCb tr o && isBig o.op) = true
          · rw [if_pos hbg] at hlv
            have h9 := h
            unfold Alike at h9
            rw [hlv] at h9
            exact effF0_congr ⟨h9.fo, h9.t, fun _ _ _ _ => h9.gen (by omega) (by omega) (by omega) (by omega), fun _ _ _ _ => h9.box (by omega) (by omega) (by omega) (by omega), fun e => absurd e (by have := lvl0_le tr o; omega), fun e => absurd e (by have := lvl0_le tr o; omega), fun _ _ _ _ => h9.bown (by omega) (by omega) (by omega) (by omega), fun m e => absurd e (by have := lvl0_le tr o; omega), h9.own⟩
          · rw [if_neg hbg] at hlv
            exact effF0_congr (by unfold Alike at h; rwa [hlv] at h)
  · rw [if_neg hok0, if_neg hok0]

theorem opStep_congr (h : Alike tr ops o S S2) {E : Eff} (hs : opStep P N tr o S E) : opStep P N tr o S2 E := by
  unfold opStep at hs ⊢
  split at hs
  · rename_i x args ts ho
    have he : ∀ x, x ∈ o.op.operands.toList → S2.ev x = S.ev x := fun x hx => h.ev hx
    simp only [ho, Op.operands] at he
    have hm : args.toList.map S2.ev = args.toList.map S.ev := map_ev_congr fun x hx => he x (by simp [Call.operands] at hx ⊢; first | exact hx | exact .inr hx)
    rw [hm, he x (by simp [Call.operands])]
    refine ⟨hs.1, ?_⟩
    have hs := hs.2
    split at hs
    · rename_i hcb
      rw [if_pos hcb]
      have hl5 : lvl tr o = 5 ∨ lvl tr o = 9 := by
        by_cases hq : isOut tr o = true
        · exact .inr (by simp [lvl, lvlB, fpOf, fpA, csOp, isNew, isBig, ho, hcb, hq])
        · exact .inl (by simp [lvl, lvlB, fpOf, fpA, lvl0, csOp, isNew, isBig, ho, hcb, hq])
      have hg := h.gen (by omega) (by omega) (by omega) (by omega)
      have hb := h.box (by omega) (by omega) (by omega) (by omega)
      have hbo := h.bown (by omega) (by omega) (by omega) (by omega)
      have hsn : snap S2 = snap S := by
        funext n
        simp only [snap, hg, hb, hbo]
      rw [hsn, hg, h.fo]
      exact hs
    · rename_i hcb
      rw [if_neg hcb]
      exact hs
  · rw [effF_congr h]
    exact hs

/-- What an effect may touch. -/
structure ShapeL (L : Nat) (tr : List Nat) (o : Oper) (S : PS) (E : Eff) : Prop where
  dst : E.dst = o.dst
  clr : ∀ i j, E.clr (.t i j) = true → ∃ k, (i, k) ∈ srcs tr o ∧ (k = none ∨ k = some j)
  bclr : ∀ n k, E.clr (.b n k) = true → L = 3
  bx : E.bx ≠ [] → 4 ≤ L
  gen : L = 4 → ∀ u ∈ E.bx, u.g = S.gen u.n
structure Shape (tr : List Nat) (o : Oper) (S : PS) (E : Eff) : Prop extends ShapeL (lvl tr o) tr o S E where
  calm : lvl tr o = 6 ∨ lvl tr o = 8 → E.bx = []
  out : lvl tr o = 9 → ∀ u ∈ E.bx, nws tr S.fo u.n = true
  nw : lvl tr o = 7 → ∀ u ∈ E.bx, nws tr S.fo u.n = false
  fp : ∀ m, lvl tr o = 20 + m → ∀ u ∈ E.bx, u.n = S.fo + m
theorem nws_f {d : Nat} (hd : d + 60000 ∈ tr) (hl : d < 10000) (fo : Nat) : nws tr fo (fo + d) = false := by
  unfold nws
  rw [List.all_eq_false]
  refine ⟨_, hd, ?_⟩
  have : 60000 ≤ d + 60000 ∧ d + 60000 < 70000 := by omega
  simp [this]

theorem shape_plain {L : Nat} {r : PV} {ro : Nat → Bool} : ShapeL L tr o S ⟨o.dst, r, ro, fun _ => false, []⟩ :=
  ⟨rfl, fun _ _ h => by simp at h, fun _ _ h => by simp at h, fun h => absurd rfl h, fun _ _ h => by simp at h⟩

theorem shape_frz {L : Nat} {r : PV} {E : Eff} (hl : L = 5) (h : frzE o S r = some E) : ShapeL L tr o S E := by
  unfold frzE at h
  split at h
  · cases h; exact shape_plain
  · cases h
    exact ⟨rfl, fun _ _ h => by simp at h, fun _ _ h => by simp at h, fun _ => by omega, fun h => by omega⟩
  · cases h

theorem effF0_shape {E : Eff} (he : effF0 P N tr S o = some E) : ShapeL (lvl0 tr o) tr o S E := by
  unfold effF0 at he
  split at he
  · split at he
    · rename_i x ho
      cases he
      unfold mvEff
      cases x with
      | tmp s =>
        refine ⟨rfl, fun i j h => ?_, fun _ _ h => by simp [slotOf] at h, fun h => absurd rfl h, fun _ _ h => by simp at h⟩
        simp [slotOf] at h
        exact ⟨none, by simp [srcs, ho, h], .inl rfl⟩
      | const v => exact shape_plain
      | global g => exact shape_plain
      | func f => exact shape_plain
    · rename_i x ho
      split at he
      · rename_i hfz
        exact shape_frz (by simp [lvl0, ho, hfz]) he
      rename_i hfz
      cases he
      unfold mvEff
      cases x with
      | tmp s =>
        by_cases ht : isTr tr o = true
        · simp only [if_pos ht]
          refine ⟨rfl, fun i j h => ?_, fun _ _ h => by simp [slotOf] at h, fun h => absurd rfl h, fun _ _ h => by simp at h⟩
          simp [slotOf] at h
          exact ⟨none, by simp [srcs, ho, h, ht], .inl rfl⟩
        · simp only [if_neg ht]
          exact shape_plain
      | const v => exact shape_plain
      | global g => exact shape_plain
      | func f => exact shape_plain
    · rename_i x k ho
      split at he
      · rename_i s
        split at he
        · split at he
          · cases he
          · cases he
            refine ⟨rfl, fun i j h => ?_, fun _ _ h => by simp at h, fun h => absurd rfl h, fun _ _ h => by simp at h⟩
            simp at h
            exact ⟨some k, by simp [srcs, ho, h.1], .inr (by rw [h.2])⟩
          · cases he
        · cases he
      · cases he
    · rename_i t x ho
      split at he
      · split at he
        · rename_i hfz
          exact shape_frz (by simp [lvl0, ho, hfz]) he
        rename_i hfz
        split at he
        · rename_i ht
          split at he
          · cases he
            refine ⟨rfl, fun i j h => by simp at h, fun _ _ h => by simp [lvl0, ho, ht, hfz], fun h => absurd rfl h, fun _ _ h => by simp at h⟩
          · cases he
        · cases he
          exact shape_plain
      · cases he
    · rename_i e ho
      split at he
      · split at he
        · cases he
          refine ⟨rfl, fun i j h => by simp at h, fun _ _ h => by simp at h, fun _ => by simp [lvl0, ho], fun h => by simp [lvl0, ho] at h⟩
        · cases he
      · cases he
    · rename_i e x ho
      split at he
      · split at he
        · simp only [Option.map_eq_some_iff] at he
          obtain ⟨ds, _, rfl⟩ := he
          exact shape_plain
        · split at he
          · rename_i how
            unfold boxOw at he
            split at he
            · split at he
              · cases he
                refine ⟨by simp [*], fun i j h => ?_, fun _ _ h => by simp [slotOf] at h, fun _ => by simp [lvl0, ho], fun h => by simp [lvl0, ho] at h⟩
                simp [slotOf] at h
                exact ⟨none, by simp [srcs, ho, how, h], .inl rfl⟩
              · cases he
            · cases he
          cases he
          refine ⟨rfl, fun i j h => by simp at h, fun _ _ h => by simp at h, fun _ => by simp [lvl0, ho], fun h => by simp [lvl0, ho] at h⟩
      · cases he
    · rename_i t l c ho
      split at he
      · split at he
        · split at he
          · split at he
            · cases he
              exact shape_plain
            · cases he
              refine ⟨rfl, fun i j h => by simp at h, fun _ _ h => by simp at h, fun _ => by simp [lvl0, ho], fun h => by simp [lvl0, ho] at h⟩
          · cases he
        · cases he
      · cases he
    · rename_i t x v ho
      split at he
      · rename_i hd hx hc
        split at he
        · rename_i hcond
          split at he
          · rename_i s
            cases he
            refine ⟨hd.symm, fun i j h => ?_, fun _ _ h => by simp [slotOf] at h, fun _ => by simp [lvl0, ho], fun _ u h => ?_⟩
            · simp [slotOf] at h
              exact ⟨none, by simp [srcs, ho, h], .inl rfl⟩
            · simp at h
              subst h
              exact hcond.1
          · cases he
            refine ⟨hd.symm, fun i j h => by simp at h, fun _ _ h => by simp at h, fun _ => by simp [lvl0, ho], fun _ u h => ?_⟩
            simp at h
            subst h
            exact hcond.1
        · cases he
      · cases he
    · rename_i args ts ho
      have key : ∀ E, appEff P tr S o args.toList ts.toList = some E → ShapeL (lvl0 tr o) tr o S E := by
       intro E he
       unfold appEff at he
       split at he
       · rename_i s x t tx hargs hts
         have hsr : ∀ i j, slotOf s (.t i j) = true → ∃ k, (i, k) ∈ srcs tr o ∧ (k = none ∨ k = some j) := by
           intro i j h
           simp [slotOf] at h
           exact ⟨none, by simp [srcs, ho, hargs, h], .inl rfl⟩
         split at he
         · split at he
           · split at he
             · split at he
               · split at he
                 · rename_i hbx
                   split at he
                   · split at he
                     · cases he
                       exact ⟨rfl, hsr, fun _ _ h => by simp [slotOf] at h, fun _ => by simp [lvl0, ho, hbx], fun h => by simp [lvl0, ho, hbx] at h⟩
                     · cases he
                   · cases he
                 · split at he
                   · cases he
                     exact ⟨rfl, hsr, fun _ _ h => by simp [slotOf] at h, fun h => absurd rfl h, fun _ _ h => by simp at h⟩
                   · cases he
               · split at he
                 · rename_i hc
                   have hbx := hc.2.2.2.2.2
                   cases he
                   exact ⟨rfl, fun _ _ h => by simp at h, fun _ _ h => by simp at h, fun _ => by simp [lvl0, ho, hbx], fun h => by simp [lvl0, ho, hbx] at h⟩
                 · cases he
               · cases he
             · cases he
           · cases he
         · cases he
       · cases he
      split at he
      · split at he
        · rename_i m hsb
          split at he
          · rename_i hrb
            simp only [Option.bind_eq_some_iff] at he
            obtain ⟨E0, he0, hg⟩ := he
            have hk := key E0 he0
            unfold giveOwn at hg
            split at hg
            · split at hg
              · cases hg
                have h5 : lvl0 tr o = 5 := by simp [lvl0, ho, hrb.2]
                exact ⟨hk.dst, hk.clr, hk.bclr, fun _ => by omega, fun h => by omega⟩
              · cases hg
            · cases hg
          · cases he
        · cases he
      · exact key E he
    · rename_i t ps ho
      split at he
      · rename_i hnb
        unfold nbEff at he
        split at he
        · rename_i _ _ _ _ _ hdd _ _
          split at he
          · split at he
            · cases he
              exact ⟨hdd.symm, fun _ _ h => by simp at h, fun _ _ h => by simp at h, fun _ => by simp [lvl0, ho, hnb], fun h => by simp [lvl0, ho, hnb] at h⟩
            · cases he
          · cases he
        · cases he
      split at he
      · rename_i how
        simp only [Option.map_eq_some_iff] at he
        obtain ⟨r, hv, rfl⟩ := he
        split
        · rename_i s hb
          refine ⟨rfl, fun i j h => ?_, fun _ _ h => by simp [slotOf] at h, fun h => absurd rfl h, fun _ _ h => by simp at h⟩
          simp [slotOf] at h
          unfold buildOw at hb
          split at hb
          · rename_i hps
            split at hb
            · split at hb
              · cases hb
                exact ⟨none, by simp [srcs, ho, how, hps, h], .inl rfl⟩
              · cases hb
            · cases hb
          · cases hb
        · exact ⟨rfl, fun _ _ h => by simp at h, fun _ _ h => by simp at h, fun h => absurd rfl h, fun _ _ h => by simp at h⟩
      · simp only [Option.map_eq_some_iff] at he
        obtain ⟨r, _, rfl⟩ := he
        exact shape_plain
    · rename_i t len ps ho
      split at he
      · rename_i hbx
        split at he
        · unfold bsl2Eff at he
          split at he
          · split at he
            · split at he
              · cases he
                exact ⟨rfl, fun i j h => by simp at h, fun _ _ h => by simp at h, fun _ => by simp [lvl0, ho, hbx], fun h => by simp [lvl0, ho, hbx] at h⟩
              · cases he
            · cases he
          · cases he
        unfold bslEff at he
        split at he
        · rename_i d e i s hdd ht hps
          split at he
          · split at he
            · cases he
              refine ⟨rfl, fun i j h => ?_, fun _ _ h => by simp [slotOf] at h, fun _ => by simp [lvl0, ho, hbx], fun h => by simp [lvl0, ho, hbx] at h⟩
              simp [slotOf] at h
              exact ⟨none, by simp [srcs, ho, hbx, hps, h], .inl rfl⟩
            · cases he
          · cases he
        · cases he
      · simp only [Option.map_eq_some_iff] at he
        obtain ⟨r, _, rfl⟩ := he
        exact shape_plain
    · rename_i src dst x ho
      split at he
      · rename_i hfz
        unfold cvfEff at he
        split at he
        · split at he
          · exact shape_frz (by simp [lvl0, ho, hfz]) he
          · cases he
        · cases he
      · simp only [Option.map_eq_some_iff] at he
        obtain ⟨r, _, rfl⟩ := he
        exact shape_plain
    · simp only [Option.map_eq_some_iff] at he
      obtain ⟨r, _, rfl⟩ := he
      exact shape_plain
  · cases he

theorem new_bx {E : Eff} (hn : isNew o.op = true) (he : effF0 P N tr S o = some E) : ∀ u ∈ E.bx, ∃ d, o.dst = some d ∧ u.n = S.fo + d := by
  intro u hu
  unfold effF0 at he
  split at he
  · cases ho : o.op with
    | alloc e =>
      simp only [ho] at he
      split at he
      · rename_i d z hd hz
        split at he
        · cases he
          simp at hu
          exact ⟨d, hd, by rw [hu]⟩
        · cases he
      · cases he
    | box e x =>
      simp only [ho] at he
      split at he
      · rename_i d cs hd hc
        split at he
        · simp only [Option.map_eq_some_iff] at he
          obtain ⟨ds, _, rfl⟩ := he
          simp at hu
        · split at he
          · unfold boxOw at he
            split at he
            · split at he
              · cases he
                simp at hu
                exact ⟨d, hd, by rw [hu]⟩
              · cases he
            · cases he
          cases he
          simp at hu
          exact ⟨d, hd, by rw [hu]⟩
      · cases he
    | makeSlice t l c =>
      simp only [ho] at he
      split at he
      · rename_i d e k1 n k2 m hd h1 h2 h3
        split at he
        · split at he
          · split at he
            · cases he
              simp at hu
            · cases he
              simp at hu
              exact ⟨d, hd, by rw [hu]⟩
          · cases he
        · cases he
      · cases he
    | build t ps =>
      simp only [ho] at he
      split at he
      · unfold nbEff at he
        split at he
        · rename_i d c sz ag r hd _ hv
          split at he
          · split at he
            · cases he
              simp at hu
              exact ⟨d, hd, by rw [hu]⟩
            · cases he
          · cases he
        · cases he
      split at he
      · simp only [Option.map_eq_some_iff] at he
        obtain ⟨r, _, rfl⟩ := he
        split at hu <;> simp at hu
      · simp only [Option.map_eq_some_iff] at he
        obtain ⟨r, _, rfl⟩ := he
        simp at hu
    | buildSlice t len ps =>
      simp only [ho] at he
      split at he
      · split at he
        · unfold bsl2Eff at he
          split at he
          · rename_i d e hd h1
            split at he
            · split at he
              · cases he
                simp at hu
                exact ⟨d, hd, by rw [hu]⟩
              · cases he
            · cases he
          · cases he
        unfold bslEff at he
        split at he
        · rename_i d e i s hd h1 h2
          split at he
          · split at he
            · cases he
              simp at hu
              exact ⟨d, hd, by rw [hu]⟩
            · cases he
          · cases he
        · cases he
      · simp only [Option.map_eq_some_iff] at he
        obtain ⟨r, _, rfl⟩ := he
        simp at hu
    | _ => rw [ho] at hn; simp [isNew] at hn
  · cases he
theorem store_bx {E : Eff} {t : TypeId} {x v : Operand} (ho : o.op = .store t x v) (he : effF0 P N tr S o = some E) : ∀ u ∈ E.bx, ∃ g k, S.ev x = .ptr u.n g k := by
  intro u hu
  unfold effF0 at he
  split at he
  · simp only [ho] at he
    split at he
    · rename_i n g off cs _ hx _
      split at he
      · split at he <;> (cases he; simp at hu; subst hu; exact ⟨g, off, hx⟩)
      · cases he
    · cases he
  · cases he
theorem effF_shape {E : Eff} (he : effF P N tr S o = some E) : Shape tr o S E := by
  unfold effF at he
  split at he
  · rename_i hok0
    have hok := (Bool.and_eq_true_iff.1 hok0).1
    have h := effF0_shape he
    cases hq : fpOf tr o with
    | some q =>
      have hl : lvl tr o = 20 + q.1 := by simp [lvl, hq]
      obtain ⟨hat, hnt⟩ := fpCk_1 hq (Bool.and_eq_true_iff.1 hok0).2
      rcases fpOf_cs hq with hc | ⟨t, s, ho⟩
      · obtain ⟨n1, n2⟩ := hnt (by rw [hc]; rfl)
        have hl2 : lvl0 tr o ≤ 2 := by
          unfold lvl0
          cases ho : o.op <;> rw [ho] at hc <;> simp [csOp] at hc <;> simp [n1, n2]
        have hbx : E.bx = [] := Classical.byContradiction fun hb => by have := h.bx hb; omega
        exact ⟨⟨h.dst, h.clr, fun n k hc => by have := h.bclr n k hc; omega, fun hb => absurd hbx hb, fun h4 => by omega⟩, fun _ => hbx, fun h9 => by omega, fun h7 => by omega, fun m e u hu => by rw [hbx] at hu; simp at hu⟩
      · have hl4 : lvl0 tr o = 4 := by simp [lvl0, ho]
        refine ⟨⟨h.dst, h.clr, fun n k hc => by have := h.bclr n k hc; omega, fun _ => by omega, fun h4 => by omega⟩, fun h6 => by omega, fun h9 => by omega, fun h7 => by omega, fun m e u hu => ?_⟩
        obtain ⟨g, k, hx⟩ := store_bx ho he u hu
        rw [hx] at hat
        have : u.n = S.fo + q.1 := by simpa [atBox] using hat
        have hm : q.1 = m := by omega
        rw [this, hm]
    | none =>
    cases hA : fpA tr o with
    | some d =>
      have hl : lvl tr o = 20 + d := by simp [lvl, hq, hA]
      obtain ⟨⟨e, ho⟩, hdd⟩ := fpA_spec hA
      have hl5 : lvl0 tr o = 5 := by simp [lvl0, ho]
      refine ⟨⟨h.dst, h.clr, fun n k hc => by have := h.bclr n k hc; omega, fun _ => by omega, fun h4 => by omega⟩, fun h6 => by omega, fun h9 => by omega, fun h7 => by omega, fun m e2 u hu => ?_⟩
      obtain ⟨d', hd', e3⟩ := new_bx (by rw [ho]; rfl) he u hu
      rw [hdd] at hd'
      cases hd'
      rw [e3]
      omega
    | none =>
    have hlv : lvl tr o = (if (isCs tr o && (csOp o.op).isSome) = true then 0 else if (isCm tr o && (csOp o.op).isSome) = true then 6 else if (isCl tr o && (csOp o.op).isSome) = true then 8 else if (isNw tr o && isNew o.op) = true then 7 else if (isOut tr o && isCb tr o && isBig o.op) = true then 9 else lvl0 tr o) := by simp only [lvl, hq, hA, lvlB]
    have h5 := lvl0_le tr o
    have e0 : ∀ x, csOp o.op = some x → isTr tr o = false → isFz tr o = false → lvl0 tr o ≤ 2 := by
      intro x hx ht hf
      unfold lvl0
      cases ho : o.op <;> rw [ho] at hx <;> simp [csOp] at hx <;> simp [ht, hf]
    have key : ∀ x, csOp o.op = some x → isTr tr o = false → isFz tr o = false → lvl tr o = 0 ∨ lvl tr o = 6 ∨ lvl tr o = 8 → Shape tr o S E := by
      intro x hx ht hf hl
      have := e0 x hx ht hf
      have hbx : E.bx = [] := Classical.byContradiction fun hb => by have := h.bx hb; omega
      exact ⟨⟨h.dst, h.clr, fun n k hc => by have := h.bclr n k hc; omega, fun hb => absurd hbx hb, fun h4 => by omega⟩, fun _ => hbx, fun h9 => by omega, fun h7 => by omega, fun m e => by omega⟩
    by_cases hcs : (isCs tr o && (csOp o.op).isSome) = true
    · rw [if_pos hcs] at hlv
      have hcs2 := Bool.and_eq_true_iff.1 hcs
      obtain ⟨x, hx⟩ := Option.isSome_iff_exists.1 hcs2.2
      obtain ⟨q1, q2, q3⟩ := csOk_1 hx hcs2.1 hok
      exact key x hx q2 q3 (.inl hlv)
    · rw [if_neg hcs] at hlv
      by_cases hcm : (isCm tr o && (csOp o.op).isSome) = true
      · rw [if_pos hcm] at hlv
        have hcm2 := Bool.and_eq_true_iff.1 hcm
        obtain ⟨x, hx⟩ := Option.isSome_iff_exists.1 hcm2.2
        obtain ⟨q1, q2, q3⟩ := csOk_2 hx hcm2.1 hok
        exact key x hx q2 q3 (.inr (.inl hlv))
      · rw [if_neg hcm] at hlv
        by_cases hcl : (isCl tr o && (csOp o.op).isSome) = true
        · rw [if_pos hcl] at hlv
          have hcl2 := Bool.and_eq_true_iff.1 hcl
          obtain ⟨x, hx⟩ := Option.isSome_iff_exists.1 hcl2.2
          obtain ⟨q1, q2, q3⟩ := csOk_3 hx hcl2.1 hok
          exact key x hx q2 q3 (.inr (.inr hlv))
        rw [if_neg hcl] at hlv
        by_cases hnw : (isNw tr o && isNew o.op) = true
        · rw [if_pos hnw] at hlv
          have hnw2 := Bool.and_eq_true_iff.1 hnw
          have hl0 : lvl0 tr o ≠ 3 := by
            unfold lvl0
            have := hnw2.2
            cases ho : o.op <;> rw [ho] at this <;> simp [isNew] at this <;> simp
            all_goals (split <;> simp)
          refine ⟨⟨h.dst, h.clr, fun n k hc => absurd (h.bclr n k hc) hl0, fun _ => by omega, fun h4 => by omega⟩, fun h6 => by omega, fun h9 => by omega, fun _ u hu => ?_, fun m e => by omega⟩
          obtain ⟨d, hd, e⟩ := new_bx hnw2.2 he u hu
          have := hnw2.1
          unfold isNw at this
          rw [hd] at this
          simp only [Bool.and_eq_true, decide_eq_true_eq] at this
          rw [e]
          exact nws_f (by simpa using this.1) this.2 _
        · rw [if_neg hnw] at hlv
          by_cases hbg : (isOut tr o && isCb tr o && isBig o.op) = true
          · have hbg2 := Bool.and_eq_true_iff.1 hbg
            have hbx : E.bx = [] := by
              have hb := hbg2.2
              unfold effF0 at he
              split at he
              · cases ho : o.op with
                | call c =>
                  obtain ⟨cal, args, ts⟩ := c
                  cases cal with
                  | value x =>
                    simp only [ho, effV, Option.map_none] at he
                    cases he
                  | _ => rw [ho] at hb; simp [isBig] at hb
                | _ => rw [ho] at hb; simp [isBig] at hb
              · cases he
            rw [if_pos hbg] at hlv
            refine ⟨⟨h.dst, h.clr, fun n k hc => absurd (h.bclr n k hc) ?_, fun hb => absurd hbx hb, fun h4 => by omega⟩, fun _ => hbx, fun _ u hu => by rw [hbx] at hu; simp at hu, fun h7 => by omega, fun m e => by omega⟩
            have hcb := (Bool.and_eq_true_iff.1 hbg2.1).2
            have := hbg2.2
            cases ho : o.op with
            | call c =>
              obtain ⟨cal, args, ts⟩ := c
              cases cal with
              | value x => simp [lvl0, ho, hcb]
              | _ => rw [ho] at this; simp [isBig] at this
            | _ => rw [ho] at this; simp [isBig] at this
          · rw [if_neg hbg] at hlv
            exact ⟨by rwa [hlv], fun h6 => by omega, fun h9 => by omega, fun h7 => by omega, fun m e => by omega⟩
  · cases he

theorem opStep_shape {E : Eff} (hs : opStep P N tr o S E) : Shape tr o S E := by
  unfold opStep at hs
  split at hs
  · rename_i x args ts ho
    obtain ⟨_, hs⟩ := hs
    split at hs
    · rename_i hcb
      obtain ⟨f, caps, ns, fo, r, ro, post, _, _, _, hout, rfl⟩ := hs
      by_cases hq : isOut tr o = true
      · have hl9 : lvl tr o = 9 := by simp [lvl, lvlB, fpOf, fpA, csOp, isNew, isBig, ho, hcb, hq]
        exact ⟨⟨rfl, fun _ _ h => by simp at h, fun _ _ h => by simp at h, fun _ => by omega, fun h => by omega⟩, fun h => by omega, fun _ => hout hq, fun h => by omega, fun m e => by omega⟩
      · have hl5 : lvl tr o = 5 := by simp [lvl, lvlB, fpOf, fpA, lvl0, csOp, isNew, isBig, ho, hcb, hq]
        exact ⟨⟨rfl, fun _ _ h => by simp at h, fun _ _ h => by simp at h, fun _ => by omega, fun h => by omega⟩, fun h => by omega, fun h => by omega, fun h => by omega, fun m e => by omega⟩
    · obtain ⟨f, caps, r, ro, _, _, _, rfl⟩ := hs
      exact ⟨shape_plain, fun _ => rfl, fun _ u hu => by simp [callE] at hu, fun _ u hu => by simp [callE] at hu, fun _ _ u hu => by simp [callE] at hu⟩
  · exact effF_shape hs

theorem stp_shape {E : Eff} (hs : Stp P N tr ops o S E) : Shape tr o S E := by
  unfold Stp at hs
  split at hs
  · exact opStep_shape hs
  · rw [hs.2]
    exact ⟨shape_plain, fun _ => rfl, fun _ u hu => by simp [skipE] at hu, fun _ u hu => by simp [skipE] at hu, fun _ _ u hu => by simp [skipE] at hu⟩
end

end BoEng
