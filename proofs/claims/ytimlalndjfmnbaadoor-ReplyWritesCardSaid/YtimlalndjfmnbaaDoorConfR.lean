/- Configurations: what the document's layer 13 answers, first part. -/
import Derived.Test.YtimlalndjfmnbaaDoorConfQ
namespace Go.Proofs.YtimlalndjfmnbaaDoor
open BoEng Go
set_option maxRecDepth 100000
set_option linter.unusedSimpArgs false
set_option linter.unusedVariables false

/-! ### the flat list and the nets -/
theorem subsF_all (p : Sub → Bool) : ∀ (k i : Nat) (l : List Sub), (subsF k i l).all (fun x => p x.s) = l.all p
  | _, _, [] => rfl
  | k, i, s :: l => by simp [subsF, subsF_all p k (i + 1) l]
theorem spotsF_all (p : Sub → Bool) : ∀ (k : Nat) (l : List Net), (spotsF k l).all (fun x => p x.s) = l.all fun n => n.subs.all p
  | _, [] => rfl
  | k, n :: l => by simp [spotsF, subsF_all, spotsF_all p (k + 1) l]
def netFair (n : Net) : Bool := n.subs.all fairS
def netBoth (n : Net) : Bool := netOk n && netFair n
def netPlaced (server : Int) (n : Net) : Bool := n.subs.all (placedX server)
theorem all_and {α : Type} (p q : α → Bool) (l : List α) : (l.all fun x => p x && q x) = (l.all p && l.all q) := by
  induction l with
  | nil => rfl
  | cons x l ih =>
    simp only [List.all_cons, ih]
    cases p x <;> cases q x <;> cases l.all p <;> rfl
theorem form_nets (c : Cfg) : (c.nets.all netOk && (spotsS c).all fairX) = c.nets.all netBoth := by
  have h := spotsF_all fairS 0 c.nets
  show (c.nets.all netOk && (spotsF 0 c.nets).all fun x => fairS x.s) = _
  rw [h]
  exact (all_and netOk netFair c.nets).symm
theorem placed_nets (c : Cfg) : placedS c = c.nets.all (netPlaced c.server) := spotsF_all (placedX c.server) 0 c.nets
theorem form_at {c : Cfg} (hf : formS c = true) {i k : Nat} (hi : i < c.nets.length) (hk : k < c.nets[i].subs.length) : fairS c.nets[i].subs[k] = true := by
  have h : c.nets.all netBoth = true := by
    rw [← form_nets]
    simp only [formS, Bool.and_eq_true] at hf
    simp only [Bool.and_eq_true]
    exact ⟨hf.1.2, hf.2⟩
  have h1 := List.all_eq_true.1 h _ (List.getElem_mem hi)
  simp only [netBoth, Bool.and_eq_true, netFair] at h1
  exact List.all_eq_true.1 h1.2 _ (List.getElem_mem hk)
theorem sized_sub {c : Cfg} (hc : sizedC c) {i k : Nat} (hi : i < c.nets.length) (hk : k < c.nets[i].subs.length) : sizedS c.nets[i].subs[k] := (hc.2 _ (List.getElem_mem hi)).2 _ (List.getElem_mem hk)
theorem sized_net {c : Cfg} (hc : sizedC c) {i : Nat} (hi : i < c.nets.length) : c.nets[i].subs.length ≤ 1000 := (hc.2 _ (List.getElem_mem hi)).1

end Go.Proofs.YtimlalndjfmnbaaDoor
