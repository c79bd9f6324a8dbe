/- Which address a client may have, and which one it gets: plain. -/
import Derived.Test.YtnkmlhlegndlhaaGreatTable2
import Derived.Test.YtnkmlhlegndlhaaGreatConfU
namespace Go.Proofs.YtnkmlhlegndlhaaGreat
open BoEng Go
set_option maxRecDepth 100000
set_option linter.unusedSimpArgs false
set_option linter.unusedVariables false
def holdsL (now : Int) (l : LeaseR) : Bool := decide (l.state = 1) && decide (now < l.expiry)
def restsL (now : Int) (l : LeaseR) : Bool := decide (l.state = 3) && decide (now < l.expiry)
def ofP (k : List UInt8) (l : LeaseR) : Bool := decide (l.key = k)
def ofT (t : List LeaseR) (k : List UInt8) : List LeaseR := (goodT t).filter (ofP k)
def freeL (l : LeaseR) (k : List UInt8) (now : Int) : Bool := !restsL now l && (!holdsL now l || decide (l.key = k))
def freeT (t : List LeaseR) (a : Int) (k : List UInt8) (now : Int) : Bool := !(getT t a).2 || freeL (getT t a).1 k now
theorem getT_spec {t : List LeaseR} {a : Int} (h : (getT t a).2 = true) : (getT t a).1 ∈ goodT t ∧ (getT t a).1.addr = a := by
 by_cases hc : isA (goodT t) a = true
 ·obtain ⟨hp, he⟩ := isA_pos hc
  unfold getT
  rw [if_pos hc]
  dsimp only
  rw [List.getD_eq_getElem?_getD, List.getElem?_eq_getElem hp]
  exact ⟨List.getElem_mem hp, he⟩
 ·unfold getT at h
  rw [if_neg hc] at h
  cases h
theorem good_rightL {t : List LeaseR} {l : LeaseR} (h : l ∈ goodT t) : rightL l = true := (tab_iff.1 (goodT_tab t)).2.1 l h
theorem freeL_ref {l : LeaseR} (h : rightL l = true) (k : List UInt8) (now : Int) : (decide (l.state = 2) || decide (l.expiry ≤ now) || (decide (l.state = 1) && decide (l.key = k))) = freeL l k now := by
 obtain ⟨_, ⟨s0, s1⟩, _⟩ := right_rng h
 unfold freeL restsL holdsL
 have hs : l.state = 1 ∨ l.state = 2 ∨ l.state = 3 := by omega
 by_cases hn : now < l.expiry
 ·have hn' : ¬ l.expiry ≤ now := by omega
  rcases hs with e | e | e <;> simp [e, hn, hn']
 ·have hn' : l.expiry ≤ now := by omega
  rcases hs with e | e | e <;> simp [e, hn, hn']
def inN (c : Cfg) (n a : Int) : Bool := match findC c a with | some x => decide ((x.net : Int) = n) | none => false
def fairN (c : Cfg) (t : List LeaseR) (n : Int) (k : List UInt8) : Bool := decide (checkS c = 0) && tableR t && keyR k && decide (0 ≤ n ∧ n < c.nets.length)
def badL (c : Cfg) (n a now : Int) (l : LeaseR) : Bool := !decide (l.addr = a) && holdsL now l && inN c n l.addr
def otherS (c : Cfg) (t : List LeaseR) (n : Int) (k : List UInt8) (a now : Int) : Bool := t.any fun l => ofP k l && badL c n a now l
def ownS (c : Cfg) (a : Int) (k : List UInt8) : Bool := match keeperS c a with | some p => decide (p = k) | none => true
def reachS (c : Cfg) (n : Int) (k : List UInt8) (a : Int) : Bool := decide (keptS c n k = some a) || (inPoolS c n a && ownS c a k)
def mayS (c : Cfg) (t : List LeaseR) (n : Int) (k : List UInt8) (now a : Int) : Bool := fairN c t n k && reachS c n k a && !otherS c t n k a now && freeT t a k now
def heldP (c : Cfg) (n : Int) (k : List UInt8) (now : Int) (l : LeaseR) : Bool := ofP k l && (inN c n l.addr && holdsL now l)
def oldP (c : Cfg) (n : Int) (k : List UInt8) (now : Int) (l : LeaseR) : Bool := ofP k l && (inN c n l.addr && !holdsL now l)
def heldS (c : Cfg) (t : List LeaseR) (n : Int) (k : List UInt8) (now : Int) : List Int := (t.filter (heldP c n k now)).map LeaseR.addr
def oldS (c : Cfg) (t : List LeaseR) (n : Int) (k : List UInt8) (now : Int) : List Int := (t.filter (oldP c n k now)).map LeaseR.addr
def poolA (p : Rng) : List Int := (List.range (p.last - p.first + 1).toNat).map fun (i : Nat) => p.first + (i : Int)
def subA (s : Sub) : List Int := s.pools.flatMap poolA
def allA (c : Cfg) (n : Int) : List Int := match c.nets[n.toNat]? with | some x => x.subs.flatMap subA | none => []
def chooseF (H O : List Int) (kp : Option Int) (want : Int) (A : List Int) (p : Int → Bool) : Option Int :=
 if H ≠ [] then H.find? p else ((kp.toList ++ O ++ [want]).find? p).or (A.find? p)
def chooseS (c : Cfg) (t : List LeaseR) (n : Int) (k : List UInt8) (want now : Int) : Option Int :=
 if fairN c t n k = false then none else chooseF (heldS c t n k now) (oldS c t n k now) (keptS c n k) want (allA c n) (mayS c t n k now)
end Go.Proofs.YtnkmlhlegndlhaaGreat
