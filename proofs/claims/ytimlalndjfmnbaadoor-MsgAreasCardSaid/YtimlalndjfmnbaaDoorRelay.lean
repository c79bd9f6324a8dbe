/- What a relay says: what the program's relay and the document's layer 6 both answer. -/
import Derived.Test.YtimlalndjfmnbaaDoorTlv
namespace Go.Proofs.YtimlalndjfmnbaaDoor
open BoEng Go
set_option maxRecDepth 100000
set_option linter.unusedSimpArgs false
set_option linter.unusedVariables false

/-- The parts of bytes. -/
def partsN : Nat → List UInt8 → Option (List Opt)
  | _, [] => some []
  | 0, _ => none
  | _ + 1, [_] => none
  | n + 1, c :: k :: r => if r.length < k.toNat then none else (partsN n (r.drop k.toNat)).map (⟨c.toNat, r.take k.toNat⟩ :: ·)
def partsS (b : List UInt8) : Option (List Opt) := partsN b.length b
theorem partsN_mono : ∀ (n m : Nat) (b : List UInt8), b.length ≤ n → b.length ≤ m → partsN n b = partsN m b
  | n, m, [], _, _ => by cases n <;> cases m <;> rfl
  | 0, _, x :: r, h, _ => by simp at h
  | _, 0, x :: r, _, h => by simp at h
  | n + 1, m + 1, [x], _, _ => rfl
  | n + 1, m + 1, c :: k :: r, h1, h2 => by
    simp only [partsN]
    simp only [List.length_cons] at h1 h2
    rw [partsN_mono n m (r.drop k.toNat) (by simp; omega) (by simp; omega)]
theorem partsS_nil : partsS [] = some [] := rfl
theorem partsS_one (x : UInt8) : partsS [x] = none := rfl
theorem partsS_two (c k : UInt8) (r : List UInt8) : partsS (c :: k :: r) = if r.length < k.toNat then none else (partsS (r.drop k.toNat)).map (⟨c.toNat, r.take k.toNat⟩ :: ·) := by
  unfold partsS
  simp only [List.length_cons, partsN]
  rw [partsN_mono (r.length + 1) (r.drop k.toNat).length _ (by simp; omega) (Nat.le_refl _)]
theorem partsN_sized : ∀ (n : Nat) (b : List UInt8) (l : List Opt), b.length ≤ n → partsN n b = some l → l.length ≤ b.length ∧ ∀ o ∈ l, o.data.length ≤ 255 ∧ o.data.length ≤ b.length
  | n, [], l, _, h => by cases n <;> (simp [partsN] at h; subst h; simp)
  | 0, x :: r, l, h, _ => by simp at h
  | n + 1, [x], l, _, h => by simp [partsN] at h
  | n + 1, c :: k :: r, l, hl, h => by
    simp only [partsN] at h
    split at h
    · cases h
    · rename_i hk
      simp only [Option.map_eq_some_iff] at h
      obtain ⟨l', h', rfl⟩ := h
      simp only [List.length_cons] at hl
      obtain ⟨h1, h2⟩ := partsN_sized n _ l' (by simp; omega) h'
      have hk2 := k.toNat_lt
      simp only [List.length_drop] at h1 h2
      refine ⟨by simp only [List.length_cons]; omega, fun o ho => ?_⟩
      rcases List.mem_cons.1 ho with rfl | ho
      · simp only [List.length_take, List.length_cons]
        omega
      · have := h2 o ho
        simp only [List.length_cons]
        omega
theorem partsS_sized {b : List UInt8} {l : List Opt} (hb : b.length ≤ 600) (h : partsS b = some l) : sized l := by
  obtain ⟨h1, h2⟩ := partsN_sized _ b l (Nat.le_refl _) h
  exact ⟨by omega, fun o ho => by have := (h2 o ho).1; omega⟩
def partsE (b : List UInt8) : Int := if 600 < b.length then 3 else if (partsS b).isSome = true then 0 else 2
def partsV (b : List UInt8) : List Opt := if 600 < b.length then [] else (partsS b).getD []
theorem partsV_sized (b : List UInt8) : sized (partsV b) := by
  unfold partsV
  split
  · exact ⟨by simp, by simp⟩
  · rename_i h
    cases hp : partsS b with
    | none => exact ⟨by simp, by simp⟩
    | some l => exact partsS_sized (by omega) hp
/-- The link that is told. -/
def linkS (b : List UInt8) : Option Int := match (partsV b).find? fun o => decide (o.code = 5) with | some o => if o.data.length = 4 then some (valB o.data) else none | none => none

/-- The rest is cut, and what was put ahead is known. -/
theorem parts_step {b : List UInt8} {out : List Opt} {rest : List UInt8} (hp : partsS b = (partsS rest).map (out ++ ·)) {c k : UInt8} {r : List UInt8} (hr : rest = c :: k :: r) (hk : ¬ r.length < k.toNat) :
    partsS b = (partsS (r.drop k.toNat)).map ((out ++ [⟨c.toNat, r.take k.toNat⟩]) ++ ·) := by
  rw [hp, hr, partsS_two, if_neg hk]
  cases partsS (r.drop k.toNat) <;> simp

end Go.Proofs.YtimlalndjfmnbaaDoor
