/-
  No cell of these rows narrows 'for every input' (looked for: loops, veiled, ifaces, maps, wideKeys, modest, calm, conditions, laid).
  DERIVED. THE GIVEN ROWS OF THIS SEAT. 6 by the template 'for every input the law returns true; each argument reads behind the call as it read before'; 0 by the template 'total and deterministic' (their statements: YtnkmlhlegndlhaaGreatTotals.lean).
  GIVEN WITH THE SEED: the statements are not yours to turn. If you find one false, say at which input.
  Laid BY PROGRAM, IN A SANDBOX (cutbox-rows.mjs): the forced cells as the released guide's own fill.sh prints them over the translation fb8f46f48c6f4a16… (all of the seat's roots in one cut). By AI agents, Wed Nov 11 2026. No macro, syntax, notation, axiom, sorry.
-/
import Derived.Test.YtnkmlhlegndlhaaGreatChecked
import GoSem.Claim
import GoSem.ClaimJoined
import GoSem.ClaimMapViews
import Derived.JoinedTies
import Derived.KernelRfl
namespace Go.Proofs.YtnkmlhlegndlhaaGreat
/- THE CELL 'sum', in the pinned program and in every row, IS THE sha256 OF THE DUMP (.gsa) THAT YtnkmlhlegndlhaaGreatProg.lean LOADS. Nothing in Lean hashes anything: it is a label: what it is worth is what the hold of that sum in a sandbox is worth. -/
noncomputable def Tryz.pinned : Pinned := { name := "ytnkmlhlegndlhaagreat", sum := "fb8f46f48c6f4a16f3c76e82e0611be4f1180cad3798a9415fb1c56c43f032d8", checked := Tryz.checked }
namespace Rows
def none {H : Type} : Left H := { results := [], args := [] }

/-- 'boarderlaw19.EngineHandles': WHATEVER THE INPUT: true; the input reads as it did. -/
def engineHandlesSpec : ChangeSpec := { name := "engineHandles", fn := fun _ => fun
  | [d1, d2, d3, d4, d5] => { results := [.lit (.bool true)], args := [d1, d2, d3, d4, d5] }
  | _ => none }
def engineHandlesRow : OpenClaim := { program := "ytnkmlhlegndlhaagreat", sum := "fb8f46f48c6f4a16f3c76e82e0611be4f1180cad3798a9415fb1c56c43f032d8", func := "boarder/boarderlaw19.EngineHandles", spec := "engineHandles", unfollowed := true, recurses := true, apart := false }
def EngineHandlesSaid : Prop := engineHandlesRow.holds Tryz.pinned (OpenSpec.ofChange engineHandlesSpec)

/-- ITS FALSE NEIGHBOUR: 'it returns false'. Refute it at one input. -/
def engineHandlesWrong : ChangeSpec := { name := "engineHandles", fn := fun _ => fun
  | [d1, d2, d3, d4, d5] => { results := [.lit (.bool false)], args := [d1, d2, d3, d4, d5] }
  | _ => none }
def EngineHandlesWrongFalsely : Prop := engineHandlesRow.holds Tryz.pinned (OpenSpec.ofChange engineHandlesWrong)

/-- 'boarderlaw19.EngineGives': WHATEVER THE INPUT: true; the input reads as it did. -/
def engineGivesSpec : ChangeSpec := { name := "engineGives", fn := fun _ => fun
  | [d1, d2, d3, d4, d5] => { results := [.lit (.bool true)], args := [d1, d2, d3, d4, d5] }
  | _ => none }
def engineGivesRow : OpenClaim := { program := "ytnkmlhlegndlhaagreat", sum := "fb8f46f48c6f4a16f3c76e82e0611be4f1180cad3798a9415fb1c56c43f032d8", func := "boarder/boarderlaw19.EngineGives", spec := "engineGives", unfollowed := true, recurses := true, apart := false }
def EngineGivesSaid : Prop := engineGivesRow.holds Tryz.pinned (OpenSpec.ofChange engineGivesSpec)

/-- ITS FALSE NEIGHBOUR: 'it returns false'. Refute it at one input. -/
def engineGivesWrong : ChangeSpec := { name := "engineGives", fn := fun _ => fun
  | [d1, d2, d3, d4, d5] => { results := [.lit (.bool false)], args := [d1, d2, d3, d4, d5] }
  | _ => none }
def EngineGivesWrongFalsely : Prop := engineGivesRow.holds Tryz.pinned (OpenSpec.ofChange engineGivesWrong)

/-- 'boarderlaw19.EngineKeeps': WHATEVER THE INPUT: true; the input reads as it did. -/
def engineKeepsSpec : ChangeSpec := { name := "engineKeeps", fn := fun _ => fun
  | [d1, d2, d3, d4, d5] => { results := [.lit (.bool true)], args := [d1, d2, d3, d4, d5] }
  | _ => none }
def engineKeepsRow : OpenClaim := { program := "ytnkmlhlegndlhaagreat", sum := "fb8f46f48c6f4a16f3c76e82e0611be4f1180cad3798a9415fb1c56c43f032d8", func := "boarder/boarderlaw19.EngineKeeps", spec := "engineKeeps", unfollowed := true, recurses := true, apart := false }
def EngineKeepsSaid : Prop := engineKeepsRow.holds Tryz.pinned (OpenSpec.ofChange engineKeepsSpec)

/-- ITS FALSE NEIGHBOUR: 'it returns false'. Refute it at one input. -/
def engineKeepsWrong : ChangeSpec := { name := "engineKeeps", fn := fun _ => fun
  | [d1, d2, d3, d4, d5] => { results := [.lit (.bool false)], args := [d1, d2, d3, d4, d5] }
  | _ => none }
def EngineKeepsWrongFalsely : Prop := engineKeepsRow.holds Tryz.pinned (OpenSpec.ofChange engineKeepsWrong)

/-- 'boarderlaw19.EngineNaks': WHATEVER THE INPUT: true; the input reads as it did. -/
def engineNaksSpec : ChangeSpec := { name := "engineNaks", fn := fun _ => fun
  | [d1, d2, d3, d4, d5] => { results := [.lit (.bool true)], args := [d1, d2, d3, d4, d5] }
  | _ => none }
def engineNaksRow : OpenClaim := { program := "ytnkmlhlegndlhaagreat", sum := "fb8f46f48c6f4a16f3c76e82e0611be4f1180cad3798a9415fb1c56c43f032d8", func := "boarder/boarderlaw19.EngineNaks", spec := "engineNaks", unfollowed := true, recurses := true, apart := false }
def EngineNaksSaid : Prop := engineNaksRow.holds Tryz.pinned (OpenSpec.ofChange engineNaksSpec)

/-- ITS FALSE NEIGHBOUR: 'it returns false'. Refute it at one input. -/
def engineNaksWrong : ChangeSpec := { name := "engineNaks", fn := fun _ => fun
  | [d1, d2, d3, d4, d5] => { results := [.lit (.bool false)], args := [d1, d2, d3, d4, d5] }
  | _ => none }
def EngineNaksWrongFalsely : Prop := engineNaksRow.holds Tryz.pinned (OpenSpec.ofChange engineNaksWrong)

/-- 'boarderlaw19.EngineMatches': WHATEVER THE INPUT: true; the input reads as it did. -/
def engineMatchesSpec : ChangeSpec := { name := "engineMatches", fn := fun _ => fun
  | [d1, d2, d3, d4, d5] => { results := [.lit (.bool true)], args := [d1, d2, d3, d4, d5] }
  | _ => none }
def engineMatchesRow : OpenClaim := { program := "ytnkmlhlegndlhaagreat", sum := "fb8f46f48c6f4a16f3c76e82e0611be4f1180cad3798a9415fb1c56c43f032d8", func := "boarder/boarderlaw19.EngineMatches", spec := "engineMatches", unfollowed := true, recurses := true, apart := false }
def EngineMatchesSaid : Prop := engineMatchesRow.holds Tryz.pinned (OpenSpec.ofChange engineMatchesSpec)

/-- ITS FALSE NEIGHBOUR: 'it returns false'. Refute it at one input. -/
def engineMatchesWrong : ChangeSpec := { name := "engineMatches", fn := fun _ => fun
  | [d1, d2, d3, d4, d5] => { results := [.lit (.bool false)], args := [d1, d2, d3, d4, d5] }
  | _ => none }
def EngineMatchesWrongFalsely : Prop := engineMatchesRow.holds Tryz.pinned (OpenSpec.ofChange engineMatchesWrong)

/-- 'boarderlaw19.EngineFits': WHATEVER THE INPUT: true; the input reads as it did. -/
def engineFitsSpec : ChangeSpec := { name := "engineFits", fn := fun _ => fun
  | [d1, d2, d3, d4, d5] => { results := [.lit (.bool true)], args := [d1, d2, d3, d4, d5] }
  | _ => none }
def engineFitsRow : OpenClaim := { program := "ytnkmlhlegndlhaagreat", sum := "fb8f46f48c6f4a16f3c76e82e0611be4f1180cad3798a9415fb1c56c43f032d8", func := "boarder/boarderlaw19.EngineFits", spec := "engineFits", unfollowed := true, recurses := true, apart := false }
def EngineFitsSaid : Prop := engineFitsRow.holds Tryz.pinned (OpenSpec.ofChange engineFitsSpec)

/-- ITS FALSE NEIGHBOUR: 'it returns false'. Refute it at one input. -/
def engineFitsWrong : ChangeSpec := { name := "engineFits", fn := fun _ => fun
  | [d1, d2, d3, d4, d5] => { results := [.lit (.bool false)], args := [d1, d2, d3, d4, d5] }
  | _ => none }
def EngineFitsWrongFalsely : Prop := engineFitsRow.holds Tryz.pinned (OpenSpec.ofChange engineFitsWrong)

/- THE SECOND FORM. 'bulk': how many values and letters a reading holds, each counted each time it is reached (what is shared counts as often as it is met; a slice's spare places count too). A statement '..UptoSaid' is the law's where the arguments, and the package variables that the reading takes, are together of bulk at most 1048576: NARROWER than '..Said'. Prove '..Said' where nothing that the law and all that it calls make is longer than what came in: it says more and counts as full. Else prove '..UptoSaid'. A law counts once. -/
mutual
def uptoBulk {H : Type} : DataW H → Nat
  | .lit (.string bytes) => bytes.length + 1
  | .lit _ => 1
  | .nil => 1
  | .ptr d => uptoBulk d + 1
  | .slice elems spare => uptoBulkAll elems + uptoBulkAll spare + 1
  | .agg parts => uptoBulkAll parts + 1
  | .iface _ d => uptoBulk d + 1
  | .map entries => uptoBulkEntries entries + 1
  | .held _ => 1
def uptoBulkAll {H : Type} : List (DataW H) → Nat
  | [] => 0
  | d :: r => uptoBulk d + uptoBulkAll r
def uptoBulkEntries {H : Type} : List (Lit × DataW H) → Nat
  | [] => 0
  | x :: r => uptoBulkEntry x + uptoBulkEntries r
def uptoBulkEntry {H : Type} : Lit × DataW H → Nat
  | (.string bytes, d) => bytes.length + uptoBulk d + 1
  | (_, d) => uptoBulk d + 1
 end
def uptoSmall : (H : Type) → List (DataW H) → Bool := fun _ ds => decide (uptoBulkAll ds ≤ 1048576)
def OpenSpec.upto (s : _root_.Go.ChangeSpec) : _root_.Go.OpenSpec := { _root_.Go.OpenSpec.ofChange s with cond := some uptoSmall }

/-- 'boarderlaw19.EngineHandles', WHERE WHAT IT READS IS OF BULK AT MOST 1048576: true; the input reads as it did. -/
def engineHandlesUptoRow : OpenClaim := { program := "ytnkmlhlegndlhaagreat", sum := "fb8f46f48c6f4a16f3c76e82e0611be4f1180cad3798a9415fb1c56c43f032d8", func := "boarder/boarderlaw19.EngineHandles", spec := "engineHandles", unfollowed := true, recurses := true, apart := false, narrowed := true }
def EngineHandlesUptoSaid : Prop := engineHandlesUptoRow.holds Tryz.pinned (OpenSpec.upto engineHandlesSpec)

/-- 'boarderlaw19.EngineGives', WHERE WHAT IT READS IS OF BULK AT MOST 1048576: true; the input reads as it did. -/
def engineGivesUptoRow : OpenClaim := { program := "ytnkmlhlegndlhaagreat", sum := "fb8f46f48c6f4a16f3c76e82e0611be4f1180cad3798a9415fb1c56c43f032d8", func := "boarder/boarderlaw19.EngineGives", spec := "engineGives", unfollowed := true, recurses := true, apart := false, narrowed := true }
def EngineGivesUptoSaid : Prop := engineGivesUptoRow.holds Tryz.pinned (OpenSpec.upto engineGivesSpec)

/-- 'boarderlaw19.EngineKeeps', WHERE WHAT IT READS IS OF BULK AT MOST 1048576: true; the input reads as it did. -/
def engineKeepsUptoRow : OpenClaim := { program := "ytnkmlhlegndlhaagreat", sum := "fb8f46f48c6f4a16f3c76e82e0611be4f1180cad3798a9415fb1c56c43f032d8", func := "boarder/boarderlaw19.EngineKeeps", spec := "engineKeeps", unfollowed := true, recurses := true, apart := false, narrowed := true }
def EngineKeepsUptoSaid : Prop := engineKeepsUptoRow.holds Tryz.pinned (OpenSpec.upto engineKeepsSpec)

/-- 'boarderlaw19.EngineNaks', WHERE WHAT IT READS IS OF BULK AT MOST 1048576: true; the input reads as it did. -/
def engineNaksUptoRow : OpenClaim := { program := "ytnkmlhlegndlhaagreat", sum := "fb8f46f48c6f4a16f3c76e82e0611be4f1180cad3798a9415fb1c56c43f032d8", func := "boarder/boarderlaw19.EngineNaks", spec := "engineNaks", unfollowed := true, recurses := true, apart := false, narrowed := true }
def EngineNaksUptoSaid : Prop := engineNaksUptoRow.holds Tryz.pinned (OpenSpec.upto engineNaksSpec)

/-- 'boarderlaw19.EngineMatches', WHERE WHAT IT READS IS OF BULK AT MOST 1048576: true; the input reads as it did. -/
def engineMatchesUptoRow : OpenClaim := { program := "ytnkmlhlegndlhaagreat", sum := "fb8f46f48c6f4a16f3c76e82e0611be4f1180cad3798a9415fb1c56c43f032d8", func := "boarder/boarderlaw19.EngineMatches", spec := "engineMatches", unfollowed := true, recurses := true, apart := false, narrowed := true }
def EngineMatchesUptoSaid : Prop := engineMatchesUptoRow.holds Tryz.pinned (OpenSpec.upto engineMatchesSpec)

/-- 'boarderlaw19.EngineFits', WHERE WHAT IT READS IS OF BULK AT MOST 1048576: true; the input reads as it did. -/
def engineFitsUptoRow : OpenClaim := { program := "ytnkmlhlegndlhaagreat", sum := "fb8f46f48c6f4a16f3c76e82e0611be4f1180cad3798a9415fb1c56c43f032d8", func := "boarder/boarderlaw19.EngineFits", spec := "engineFits", unfollowed := true, recurses := true, apart := false, narrowed := true }
def EngineFitsUptoSaid : Prop := engineFitsUptoRow.holds Tryz.pinned (OpenSpec.upto engineFitsSpec)

end Rows
end Go.Proofs.YtnkmlhlegndlhaaGreat
