/- Appends. -/
import Derived.Test.YtoamihggbaaohaaEngJ
namespace BoEng
set_option linter.unusedSimpArgs false
set_option linter.unusedVariables false
open Go Go.RowKit

/-- What is appended: its cells. -/
inductive ASrc (P : Program) (sz by_ : Nat) (z : Value) (tx : TypeId) (x : Value) (m : Nat) (news : List Value) (w : World) : Prop
  | row (d : TypeDesc) (hd : P.underlying tx = some d) (hk : ∀ k, d ≠ .int k) (hl : (Builtin.lenOf x).run P w = .ok m w) (hl' : (Builtin.lenOf x).run P w.drew = .ok m w.drew)
      (hc : (Builtin.firstCells sz m x).run P w = .ok news.toArray w) (hc' : (Builtin.firstCells sz m x).run P w.drew = .ok news.toArray w.drew)
  | zeros (kn kq : IntKind) (hd : P.underlying tx = some (.int kn)) (hx : x = .int kq (m : Int)) (hm : (m : Int) ≤ 9223372036854775807) (hb : m * by_ ≤ 281474976710656) (hs : 0 < sz) (hn : news = (Builtin.zeroCells z.cells m).toList)

theorem wrap00 : IntKind.i64.wrap 0 = 0 := by rw [IntKind.wrap_i64]; omega

theorem app_room {P : Program} {w : World} {t tx ty e : TypeId} {i : TypeInfo} {z : Value} (ht : P.underlying t = some (.slice e)) (hi : P.info? e = some i) (hz : i.zero = some z)
    {A : Option Addr} {n c m : Nat} {x : Value} {news : List Value} (hs : ASrc P i.size i.bytes z tx x m news w) (hroom : n + m ≤ c) {w' : World}
    (hst : ∀ ad, A = some ad → (storeCells (ad.add (n * i.size)) news).run P w = .ok () w') (hno : A = none → w' = w) :
    (Builtin.append_ #[t, tx] ty #[.slice A n c, x]).run P w = .ok (.slice A (n + m) c) w' := by
  cases hs with
  | row d hd hk hl hl' hc hc' =>
    have hzf : (match d with | .int _ => true | _ => false) = false := by cases d <;> first | rfl | exact absurd rfl (hk _)
    cases A with
    | none =>
      rw [hno rfl]
      simp [Builtin.append_, run_underlying ht, run_underlying hd, Go.sizeOf, typeInfo, hi, hl, hroom, hc]
    | some ad =>
      simp [Builtin.append_, run_underlying ht, run_underlying hd, Go.sizeOf, typeInfo, hi, hl, hroom, hc, hst ad rfl]
  | zeros kn kq hd hx hm hb hsz hn =>
    subst hx
    have hw : IntKind.i64.wrap (m : Int) = m := by rw [IntKind.wrap_i64]; omega
    have hb' : ¬ (281474976710656 < (m : Int) * (i.bytes : Int)) := by
      have : ((m * i.bytes : Nat) : Int) = (m : Int) * (i.bytes : Int) := by simp
      omega
    have h0 : ¬ ((m : Int) < 0) := by omega
    by_cases hm0 : m * i.size = 0
    · have hm00 : m = 0 := by
        rcases Nat.mul_eq_zero.1 hm0 with h | h <;> omega
      subst hm00
      have hn' : news = [] := by rw [hn]; simp [Builtin.zeroCells]
      cases A with
      | none =>
        rw [hno rfl]
        simp [Builtin.append_, run_underlying ht, run_underlying hd, Go.sizeOf, typeInfo, hi, asInt, asIntOf, wrap00, show n ≤ c by omega]
      | some ad =>
        have := hst ad rfl
        rw [hn'] at this
        simp [Builtin.append_, run_underlying ht, run_underlying hd, Go.sizeOf, typeInfo, hi, asInt, asIntOf, wrap00, show n ≤ c by omega, this]
    · have hm1 : ¬ (m = 0 ∨ i.size = 0) := by
        intro h
        exact hm0 (Nat.mul_eq_zero.2 h)
      cases A with
      | none =>
        rw [hno rfl]
        simp [Builtin.append_, run_underlying ht, run_underlying hd, Go.sizeOf, typeInfo, hi, asInt, asIntOf, hw, hb', h0, hroom, hm0, zeroValue, hz]
      | some ad =>
        have := hst ad rfl
        rw [hn] at this
        simp [Builtin.append_, run_underlying ht, run_underlying hd, Go.sizeOf, typeInfo, hi, asInt, asIntOf, hw, hb', h0, hroom, hm0, zeroValue, hz, this]

theorem app_grow {P : Program} {w : World} {t tx ty e : TypeId} {i : TypeInfo} {z : Value} (ht : P.underlying t = some (.slice e)) (hi : P.info? e = some i) (hz : i.zero = some z)
    {A : Option Addr} {n c m : Nat} {x : Value} {olds news : List Value} (hs : ASrc P i.size i.bytes z tx x m news w) (hold : (Builtin.firstCells i.size n (.slice A n c)).run P w.drew = .ok olds.toArray w.drew)
    (hg : c < n + m) (h63 : ((n + m : Nat) : Int) ≤ 9223372036854775807) (hb : (n + m) * i.bytes ≤ 140737488355328) :
    (Builtin.append_ #[t, tx] ty #[.slice A n c, x]).run P w = .ok (.slice (some ⟨w.heap.size, 0, none⟩) (n + m) (grownCap w (n + m) c e))
      (w.drew.alloc (.cells (olds ++ news ++ (Builtin.zeroCells z.cells (grownCap w (n + m) c e - (n + m))).toList).toArray e)) := by
  have hfit := growslice_fits hg hb
  have hn : ¬ (n + m ≤ c) := by omega
  have h63' : ¬ (9223372036854775807 < ((n : Int) + (m : Int))) := by omega
  have h48' : ¬ (281474976710656 < Builtin.nextslicecap (n + m) c * i.bytes) := by omega
  have hfin : ∀ (P1 P2 P3 : List Value), (P1.toArray ++ P2.toArray ++ P3.toArray) = (P1 ++ P2 ++ P3).toArray := by intro P1 P2 P3; simp
  cases hs with
  | row d hd hk hl hl' hc hc' =>
    have hzf : (match d with | .int _ => true | _ => false) = false := by cases d <;> first | rfl | exact absurd rfl (hk _)
    have hold' : (Builtin.firstCells i.size n (.slice A n c)).run P w.drew = .ok olds.toArray w.drew := hold
    simp [Builtin.append_, run_underlying ht, run_underlying hd, Go.sizeOf, typeInfo, hi, hzf, hl, hn, h63', h48', Question.forced, hold', hc', zeroValue, hz, newRow, grownCap]
    congr 2
    apply Array.ext'
    simp [List.append_assoc]
  | zeros kn kq hd hx hm hb2 hsz hn2 =>
    subst hx
    have hw : IntKind.i64.wrap (m : Int) = m := by rw [IntKind.wrap_i64]; omega
    have hb' : ¬ (281474976710656 < (m : Int) * (i.bytes : Int)) := by
      have : ((m * i.bytes : Nat) : Int) = (m : Int) * (i.bytes : Int) := by simp
      omega
    have h0 : ¬ ((m : Int) < 0) := by omega
    have hmx : max (m : Int) 0 = m := by omega
    by_cases hm0 : m * i.size = 0
    · have hm00 : m = 0 := by
        rcases Nat.mul_eq_zero.1 hm0 with h | h <;> omega
      subst hm00
      have hn' : news = [] := by rw [hn2]; simp [Builtin.zeroCells]
      subst hn'
      have hn0 : ¬ (n ≤ c) := by omega
      have h63'' : ¬ (9223372036854775807 < (n : Int)) := by omega
      have h48'' : ¬ (281474976710656 < Builtin.nextslicecap n c * i.bytes) := by simpa using h48'
      simp [Builtin.append_, run_underlying ht, run_underlying hd, Go.sizeOf, typeInfo, hi, asInt, asIntOf, wrap00, hn0, h63'', h48'', Question.forced, hold, zeroValue, hz, newRow, grownCap]
      congr 2
      apply Array.ext'
      simp [List.append_assoc]
    · have hm1 : ¬ (m = 0 ∨ i.size = 0) := by
        intro h
        exact hm0 (Nat.mul_eq_zero.2 h)
      subst hn2
      simp [Builtin.append_, run_underlying ht, run_underlying hd, Go.sizeOf, typeInfo, hi, asInt, asIntOf, hw, hb', h0, hmx, hn, h63', h48', hm0, Question.forced, hold, zeroValue, hz, newRow, grownCap]
      congr 2
      apply Array.ext'
      simp [List.append_assoc]

end BoEng
