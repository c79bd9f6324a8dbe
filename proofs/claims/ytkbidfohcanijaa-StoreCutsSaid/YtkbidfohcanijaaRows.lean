/-
  No cell of these rows narrows 'for every input' (looked for: loops, veiled, ifaces, maps, wideKeys, modest, calm, conditions, laid).
  DERIVED. THE GIVEN ROWS OF THIS SEAT. 9 by the template 'for every input the law returns true; each argument reads behind the call as it read before'; 0 by the template 'total and deterministic' (their statements: YtkbidfohcanijaaTotals.lean).
  GIVEN WITH THE SEED: the statements are not yours to turn. If you find one false, say at which input.
  Laid BY PROGRAM, IN A SANDBOX (cutbox-rows.mjs): the forced cells as the released guide's own fill.sh prints them over the translation 8087b8e38de87ab4… (all of the seat's roots in one cut). By AI agents, Wed Nov 11 2026. No macro, syntax, notation, axiom, sorry.
-/
import Derived.Test.YtkbidfohcanijaaChecked
import GoSem.Claim
import GoSem.ClaimJoined
import GoSem.ClaimMapViews
import Derived.JoinedTies
import Derived.KernelRfl
namespace Go.Proofs.Ytkbidfohcanijaa
/- THE CELL 'sum', in the pinned program and in every row, IS THE sha256 OF THE DUMP (.gsa) THAT YtkbidfohcanijaaProg.lean LOADS. Nothing in Lean hashes anything: it is a label: what it is worth is what the hold of that sum in a sandbox is worth. -/
noncomputable def Try.pinned : Pinned := { name := "ytkbidfohcanijaa", sum := "8087b8e38de87ab4c7ae48a2a876dce346bb6bae09ae842e3e5e27f3287cc9a7", checked := Try.checked }
namespace Rows
def none {H : Type} : Left H := { results := [], args := [] }

/-- 'boarderlaw11.CleanLasts': WHATEVER THE INPUT: true; the input reads as it did. -/
def cleanLastsSpec : ChangeSpec := { name := "cleanLasts", fn := fun _ => fun
  | [d] => { results := [.lit (.bool true)], args := [d] }
  | _ => none }
def cleanLastsRow : OpenClaim := { program := "ytkbidfohcanijaa", sum := "8087b8e38de87ab4c7ae48a2a876dce346bb6bae09ae842e3e5e27f3287cc9a7", func := "boarder/boarderlaw11.CleanLasts", spec := "cleanLasts", unfollowed := true, recurses := true, apart := false }
def CleanLastsSaid : Prop := cleanLastsRow.holds Try.pinned (OpenSpec.ofChange cleanLastsSpec)

/-- ITS FALSE NEIGHBOUR: 'it returns false'. Refute it at one input. -/
def cleanLastsWrong : ChangeSpec := { name := "cleanLasts", fn := fun _ => fun
  | [d] => { results := [.lit (.bool false)], args := [d] }
  | _ => none }
def CleanLastsWrongFalsely : Prop := cleanLastsRow.holds Try.pinned (OpenSpec.ofChange cleanLastsWrong)

/-- 'boarderlaw11.CleanDue': WHATEVER THE INPUT: true; the input reads as it did. -/
def cleanDueSpec : ChangeSpec := { name := "cleanDue", fn := fun _ => fun
  | [d1, d2] => { results := [.lit (.bool true)], args := [d1, d2] }
  | _ => none }
def cleanDueRow : OpenClaim := { program := "ytkbidfohcanijaa", sum := "8087b8e38de87ab4c7ae48a2a876dce346bb6bae09ae842e3e5e27f3287cc9a7", func := "boarder/boarderlaw11.CleanDue", spec := "cleanDue", unfollowed := true, recurses := true, apart := false }
def CleanDueSaid : Prop := cleanDueRow.holds Try.pinned (OpenSpec.ofChange cleanDueSpec)

/-- ITS FALSE NEIGHBOUR: 'it returns false'. Refute it at one input. -/
def cleanDueWrong : ChangeSpec := { name := "cleanDue", fn := fun _ => fun
  | [d1, d2] => { results := [.lit (.bool false)], args := [d1, d2] }
  | _ => none }
def CleanDueWrongFalsely : Prop := cleanDueRow.holds Try.pinned (OpenSpec.ofChange cleanDueWrong)

/-- 'boarderlaw11.CleanAgain': WHATEVER THE INPUT: true; the input reads as it did. -/
def cleanAgainSpec : ChangeSpec := { name := "cleanAgain", fn := fun _ => fun
  | [d] => { results := [.lit (.bool true)], args := [d] }
  | _ => none }
def cleanAgainRow : OpenClaim := { program := "ytkbidfohcanijaa", sum := "8087b8e38de87ab4c7ae48a2a876dce346bb6bae09ae842e3e5e27f3287cc9a7", func := "boarder/boarderlaw11.CleanAgain", spec := "cleanAgain", unfollowed := true, recurses := true, apart := false }
def CleanAgainSaid : Prop := cleanAgainRow.holds Try.pinned (OpenSpec.ofChange cleanAgainSpec)

/-- ITS FALSE NEIGHBOUR: 'it returns false'. Refute it at one input. -/
def cleanAgainWrong : ChangeSpec := { name := "cleanAgain", fn := fun _ => fun
  | [d] => { results := [.lit (.bool false)], args := [d] }
  | _ => none }
def CleanAgainWrongFalsely : Prop := cleanAgainRow.holds Try.pinned (OpenSpec.ofChange cleanAgainWrong)

/-- 'boarderlaw11.CleanWhole': WHATEVER THE INPUT: true; the input reads as it did. -/
def cleanWholeSpec : ChangeSpec := { name := "cleanWhole", fn := fun _ => fun
  | [d] => { results := [.lit (.bool true)], args := [d] }
  | _ => none }
def cleanWholeRow : OpenClaim := { program := "ytkbidfohcanijaa", sum := "8087b8e38de87ab4c7ae48a2a876dce346bb6bae09ae842e3e5e27f3287cc9a7", func := "boarder/boarderlaw11.CleanWhole", spec := "cleanWhole", unfollowed := true, recurses := true, apart := false }
def CleanWholeSaid : Prop := cleanWholeRow.holds Try.pinned (OpenSpec.ofChange cleanWholeSpec)

/-- ITS FALSE NEIGHBOUR: 'it returns false'. Refute it at one input. -/
def cleanWholeWrong : ChangeSpec := { name := "cleanWhole", fn := fun _ => fun
  | [d] => { results := [.lit (.bool false)], args := [d] }
  | _ => none }
def CleanWholeWrongFalsely : Prop := cleanWholeRow.holds Try.pinned (OpenSpec.ofChange cleanWholeWrong)

/-- 'boarderlaw11.CleanCuts': WHATEVER THE INPUT: true; the input reads as it did. -/
def cleanCutsSpec : ChangeSpec := { name := "cleanCuts", fn := fun _ => fun
  | [d1, d2, d3, d4, d5] => { results := [.lit (.bool true)], args := [d1, d2, d3, d4, d5] }
  | _ => none }
def cleanCutsRow : OpenClaim := { program := "ytkbidfohcanijaa", sum := "8087b8e38de87ab4c7ae48a2a876dce346bb6bae09ae842e3e5e27f3287cc9a7", func := "boarder/boarderlaw11.CleanCuts", spec := "cleanCuts", unfollowed := true, recurses := true, apart := false }
def CleanCutsSaid : Prop := cleanCutsRow.holds Try.pinned (OpenSpec.ofChange cleanCutsSpec)

/-- ITS FALSE NEIGHBOUR: 'it returns false'. Refute it at one input. -/
def cleanCutsWrong : ChangeSpec := { name := "cleanCuts", fn := fun _ => fun
  | [d1, d2, d3, d4, d5] => { results := [.lit (.bool false)], args := [d1, d2, d3, d4, d5] }
  | _ => none }
def CleanCutsWrongFalsely : Prop := cleanCutsRow.holds Try.pinned (OpenSpec.ofChange cleanCutsWrong)

/-- 'boarderlaw20.StoreOpens': WHATEVER THE INPUT: true; the input reads as it did. -/
def storeOpensSpec : ChangeSpec := { name := "storeOpens", fn := fun _ => fun
  | [d] => { results := [.lit (.bool true)], args := [d] }
  | _ => none }
def storeOpensRow : OpenClaim := { program := "ytkbidfohcanijaa", sum := "8087b8e38de87ab4c7ae48a2a876dce346bb6bae09ae842e3e5e27f3287cc9a7", func := "boarder/boarderlaw20.StoreOpens", spec := "storeOpens", unfollowed := true, recurses := true, apart := false }
def StoreOpensSaid : Prop := storeOpensRow.holds Try.pinned (OpenSpec.ofChange storeOpensSpec)

/-- ITS FALSE NEIGHBOUR: 'it returns false'. Refute it at one input. -/
def storeOpensWrong : ChangeSpec := { name := "storeOpens", fn := fun _ => fun
  | [d] => { results := [.lit (.bool false)], args := [d] }
  | _ => none }
def StoreOpensWrongFalsely : Prop := storeOpensRow.holds Try.pinned (OpenSpec.ofChange storeOpensWrong)

/-- 'boarderlaw20.StoreCuts': WHATEVER THE INPUT: true; the input reads as it did. -/
def storeCutsSpec : ChangeSpec := { name := "storeCuts", fn := fun _ => fun
  | [d1, d2, d3, d4, d5] => { results := [.lit (.bool true)], args := [d1, d2, d3, d4, d5] }
  | _ => none }
def storeCutsRow : OpenClaim := { program := "ytkbidfohcanijaa", sum := "8087b8e38de87ab4c7ae48a2a876dce346bb6bae09ae842e3e5e27f3287cc9a7", func := "boarder/boarderlaw20.StoreCuts", spec := "storeCuts", unfollowed := true, recurses := true, apart := false }
def StoreCutsSaid : Prop := storeCutsRow.holds Try.pinned (OpenSpec.ofChange storeCutsSpec)

/-- ITS FALSE NEIGHBOUR: 'it returns false'. Refute it at one input. -/
def storeCutsWrong : ChangeSpec := { name := "storeCuts", fn := fun _ => fun
  | [d1, d2, d3, d4, d5] => { results := [.lit (.bool false)], args := [d1, d2, d3, d4, d5] }
  | _ => none }
def StoreCutsWrongFalsely : Prop := storeCutsRow.holds Try.pinned (OpenSpec.ofChange storeCutsWrong)

/-- 'boarderlaw20.StoreAgain': WHATEVER THE INPUT: true; the input reads as it did. -/
def storeAgainSpec : ChangeSpec := { name := "storeAgain", fn := fun _ => fun
  | [d1, d2, d3] => { results := [.lit (.bool true)], args := [d1, d2, d3] }
  | _ => none }
def storeAgainRow : OpenClaim := { program := "ytkbidfohcanijaa", sum := "8087b8e38de87ab4c7ae48a2a876dce346bb6bae09ae842e3e5e27f3287cc9a7", func := "boarder/boarderlaw20.StoreAgain", spec := "storeAgain", unfollowed := true, recurses := true, apart := false }
def StoreAgainSaid : Prop := storeAgainRow.holds Try.pinned (OpenSpec.ofChange storeAgainSpec)

/-- ITS FALSE NEIGHBOUR: 'it returns false'. Refute it at one input. -/
def storeAgainWrong : ChangeSpec := { name := "storeAgain", fn := fun _ => fun
  | [d1, d2, d3] => { results := [.lit (.bool false)], args := [d1, d2, d3] }
  | _ => none }
def StoreAgainWrongFalsely : Prop := storeAgainRow.holds Try.pinned (OpenSpec.ofChange storeAgainWrong)

/-- 'boarderlaw20.StoreLoses': WHATEVER THE INPUT: true; the input reads as it did. -/
def storeLosesSpec : ChangeSpec := { name := "storeLoses", fn := fun _ => fun
  | [d1, d2, d3, d4, d5] => { results := [.lit (.bool true)], args := [d1, d2, d3, d4, d5] }
  | _ => none }
def storeLosesRow : OpenClaim := { program := "ytkbidfohcanijaa", sum := "8087b8e38de87ab4c7ae48a2a876dce346bb6bae09ae842e3e5e27f3287cc9a7", func := "boarder/boarderlaw20.StoreLoses", spec := "storeLoses", unfollowed := true, recurses := true, apart := false }
def StoreLosesSaid : Prop := storeLosesRow.holds Try.pinned (OpenSpec.ofChange storeLosesSpec)

/-- ITS FALSE NEIGHBOUR: 'it returns false'. Refute it at one input. -/
def storeLosesWrong : ChangeSpec := { name := "storeLoses", fn := fun _ => fun
  | [d1, d2, d3, d4, d5] => { results := [.lit (.bool false)], args := [d1, d2, d3, d4, d5] }
  | _ => none }
def StoreLosesWrongFalsely : Prop := storeLosesRow.holds Try.pinned (OpenSpec.ofChange storeLosesWrong)

/- THE SECOND FORM. 'bulk': how many values and letters a reading holds, each counted each time it is reached (what is shared counts as often as it is met; a slice's spare places count too). A statement '..UptoSaid' is the law's where the arguments, and the package variables that the reading takes, are together of bulk at most 1048576: NARROWER than '..Said'. Prove '..Said' where nothing that the law and all that it calls make is longer than what came in: it says more and counts as full. Else prove '..UptoSaid'. A law counts once. -/
mutual
def uptoBulk {H : Type} : DataW H → Nat
  | .lit (.string bytes) => bytes.length + 1
  | .lit _ => 1
  | .nil => 1
  | .ptr d => uptoBulk d + 1
  | .slice elems spare => uptoBulkAll elems + uptoBulkAll spare + 1
  | .agg parts => uptoBulkAll parts + 1
  | .iface _ d => uptoBulk d + 1
  | .map entries => uptoBulkEntries entries + 1
  | .held _ => 1
def uptoBulkAll {H : Type} : List (DataW H) → Nat
  | [] => 0
  | d :: r => uptoBulk d + uptoBulkAll r
def uptoBulkEntries {H : Type} : List (Lit × DataW H) → Nat
  | [] => 0
  | x :: r => uptoBulkEntry x + uptoBulkEntries r
def uptoBulkEntry {H : Type} : Lit × DataW H → Nat
  | (.string bytes, d) => bytes.length + uptoBulk d + 1
  | (_, d) => uptoBulk d + 1
 end
def uptoSmall : (H : Type) → List (DataW H) → Bool := fun _ ds => decide (uptoBulkAll ds ≤ 1048576)
def OpenSpec.upto (s : _root_.Go.ChangeSpec) : _root_.Go.OpenSpec := { _root_.Go.OpenSpec.ofChange s with cond := some uptoSmall }

/-- 'boarderlaw11.CleanLasts', WHERE WHAT IT READS IS OF BULK AT MOST 1048576: true; the input reads as it did. -/
def cleanLastsUptoRow : OpenClaim := { program := "ytkbidfohcanijaa", sum := "8087b8e38de87ab4c7ae48a2a876dce346bb6bae09ae842e3e5e27f3287cc9a7", func := "boarder/boarderlaw11.CleanLasts", spec := "cleanLasts", unfollowed := true, recurses := true, apart := false, narrowed := true }
def CleanLastsUptoSaid : Prop := cleanLastsUptoRow.holds Try.pinned (OpenSpec.upto cleanLastsSpec)

/-- 'boarderlaw11.CleanDue', WHERE WHAT IT READS IS OF BULK AT MOST 1048576: true; the input reads as it did. -/
def cleanDueUptoRow : OpenClaim := { program := "ytkbidfohcanijaa", sum := "8087b8e38de87ab4c7ae48a2a876dce346bb6bae09ae842e3e5e27f3287cc9a7", func := "boarder/boarderlaw11.CleanDue", spec := "cleanDue", unfollowed := true, recurses := true, apart := false, narrowed := true }
def CleanDueUptoSaid : Prop := cleanDueUptoRow.holds Try.pinned (OpenSpec.upto cleanDueSpec)

/-- 'boarderlaw11.CleanAgain', WHERE WHAT IT READS IS OF BULK AT MOST 1048576: true; the input reads as it did. -/
def cleanAgainUptoRow : OpenClaim := { program := "ytkbidfohcanijaa", sum := "8087b8e38de87ab4c7ae48a2a876dce346bb6bae09ae842e3e5e27f3287cc9a7", func := "boarder/boarderlaw11.CleanAgain", spec := "cleanAgain", unfollowed := true, recurses := true, apart := false, narrowed := true }
def CleanAgainUptoSaid : Prop := cleanAgainUptoRow.holds Try.pinned (OpenSpec.upto cleanAgainSpec)

/-- 'boarderlaw11.CleanWhole', WHERE WHAT IT READS IS OF BULK AT MOST 1048576: true; the input reads as it did. -/
def cleanWholeUptoRow : OpenClaim := { program := "ytkbidfohcanijaa", sum := "8087b8e38de87ab4c7ae48a2a876dce346bb6bae09ae842e3e5e27f3287cc9a7", func := "boarder/boarderlaw11.CleanWhole", spec := "cleanWhole", unfollowed := true, recurses := true, apart := false, narrowed := true }
def CleanWholeUptoSaid : Prop := cleanWholeUptoRow.holds Try.pinned (OpenSpec.upto cleanWholeSpec)

/-- 'boarderlaw11.CleanCuts', WHERE WHAT IT READS IS OF BULK AT MOST 1048576: true; the input reads as it did. -/
def cleanCutsUptoRow : OpenClaim := { program := "ytkbidfohcanijaa", sum := "8087b8e38de87ab4c7ae48a2a876dce346bb6bae09ae842e3e5e27f3287cc9a7", func := "boarder/boarderlaw11.CleanCuts", spec := "cleanCuts", unfollowed := true, recurses := true, apart := false, narrowed := true }
def CleanCutsUptoSaid : Prop := cleanCutsUptoRow.holds Try.pinned (OpenSpec.upto cleanCutsSpec)

/-- 'boarderlaw20.StoreOpens', WHERE WHAT IT READS IS OF BULK AT MOST 1048576: true; the input reads as it did. -/
def storeOpensUptoRow : OpenClaim := { program := "ytkbidfohcanijaa", sum := "8087b8e38de87ab4c7ae48a2a876dce346bb6bae09ae842e3e5e27f3287cc9a7", func := "boarder/boarderlaw20.StoreOpens", spec := "storeOpens", unfollowed := true, recurses := true, apart := false, narrowed := true }
def StoreOpensUptoSaid : Prop := storeOpensUptoRow.holds Try.pinned (OpenSpec.upto storeOpensSpec)

/-- 'boarderlaw20.StoreCuts', WHERE WHAT IT READS IS OF BULK AT MOST 1048576: true; the input reads as it did. -/
def storeCutsUptoRow : OpenClaim := { program := "ytkbidfohcanijaa", sum := "8087b8e38de87ab4c7ae48a2a876dce346bb6bae09ae842e3e5e27f3287cc9a7", func := "boarder/boarderlaw20.StoreCuts", spec := "storeCuts", unfollowed := true, recurses := true, apart := false, narrowed := true }
def StoreCutsUptoSaid : Prop := storeCutsUptoRow.holds Try.pinned (OpenSpec.upto storeCutsSpec)

/-- 'boarderlaw20.StoreAgain', WHERE WHAT IT READS IS OF BULK AT MOST 1048576: true; the input reads as it did. -/
def storeAgainUptoRow : OpenClaim := { program := "ytkbidfohcanijaa", sum := "8087b8e38de87ab4c7ae48a2a876dce346bb6bae09ae842e3e5e27f3287cc9a7", func := "boarder/boarderlaw20.StoreAgain", spec := "storeAgain", unfollowed := true, recurses := true, apart := false, narrowed := true }
def StoreAgainUptoSaid : Prop := storeAgainUptoRow.holds Try.pinned (OpenSpec.upto storeAgainSpec)

/-- 'boarderlaw20.StoreLoses', WHERE WHAT IT READS IS OF BULK AT MOST 1048576: true; the input reads as it did. -/
def storeLosesUptoRow : OpenClaim := { program := "ytkbidfohcanijaa", sum := "8087b8e38de87ab4c7ae48a2a876dce346bb6bae09ae842e3e5e27f3287cc9a7", func := "boarder/boarderlaw20.StoreLoses", spec := "storeLoses", unfollowed := true, recurses := true, apart := false, narrowed := true }
def StoreLosesUptoSaid : Prop := storeLosesUptoRow.holds Try.pinned (OpenSpec.upto storeLosesSpec)

end Rows
end Go.Proofs.Ytkbidfohcanijaa
