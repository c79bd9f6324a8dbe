/-
  NARROWER THAN 'FOR EVERY INPUT', by the rows' own cells (each row's printed sentence says how): ServerPlays: laid · ServerFirst: laid · ServerFound: laid · ServerCuts: laid · ServerSilent: laid · ServerCleans: laid · WorldNotes: laid · WorldPlays: laid · WorldNil: laid · TopOne: laid · TopPasses: laid · TopOnce: laid.
  DERIVED. THE GIVEN ROWS OF THIS SEAT. 12 by the template 'for every input the law returns true; each argument reads behind the call as it read before'; 0 by the template 'total and deterministic' (their statements: YtoilfihojgeonaaGreatDoorTotals.lean).
  GIVEN WITH THE SEED: the statements are not yours to turn. If you find one false, say at which input.
  Laid BY PROGRAM, IN A SANDBOX (cutbox-rows.mjs): the forced cells as the released guide's own fill.sh prints them over the translation 22d6f68d45f7cf2c… (all of the seat's roots in one cut). By AI agents, Wed Nov 11 2026. No macro, syntax, notation, axiom, sorry.
-/
import Derived.Test.YtoilfihojgeonaaGreatDoorChecked
import GoSem.Claim
import GoSem.ClaimJoined
import GoSem.ClaimMapViews
import Derived.JoinedTies
import Derived.KernelRfl
namespace Go.Proofs.YtoilfihojgeonaaGreatDoor
/- THE CELL 'sum', in the pinned program and in every row, IS THE sha256 OF THE DUMP (.gsa) THAT YtoilfihojgeonaaGreatDoorProg.lean LOADS. Nothing in Lean hashes anything: it is a label: what it is worth is what the hold of that sum in a sandbox is worth. -/
noncomputable def Tryz.pinned : Pinned := { name := "ytoilfihojgeonaagreatdoor", sum := "22d6f68d45f7cf2cf4f451c54959b6543ee88e662643ae34d7c9681997964136", checked := Tryz.checked }
namespace Rows
def none {H : Type} : Left H := { results := [], args := [] }

/- WHAT THE LISTED PACKAGE-LEVEL VARIABLES READ AS WHEN THE CALL BEGINS. Each datum BY PROGRAM (the guide's laid-datum.mjs) off the statement by which the dump's own 'gosem.cut.vars' lays the variable. In a bare row this is a premise. The card (YtoilfihojgeonaaGreatDoorCards.lean) ties it to the program's text. -/
def laid_errors_errorType {H : Type} : DataW H := .iface "internal/reflectlite.rtype" (.agg [.ptr (.lit (.string [101, 114, 114, 111, 114]))])
def laid_boarder_msg_errForm {H : Type} : DataW H := .agg [.lit (.int .i64 2)]

/-- 'boarderlaw21.ServerPlays': WHATEVER THE INPUT: true; the input reads as it did. -/
def serverPlaysSpec : ChangeSpec := { name := "serverPlays", fn := fun _ => fun
  | [d1, d2] => { results := [.lit (.bool true)], args := [d1, d2] }
  | _ => none }
def serverPlaysRow : OpenClaim := { program := "ytoilfihojgeonaagreatdoor", sum := "22d6f68d45f7cf2cf4f451c54959b6543ee88e662643ae34d7c9681997964136", func := "boarder/boarderlaw21.ServerPlays", spec := "serverPlays", inPlace := ["internal/reflectlite.TypeOf", "internal/reflectlite.ValueOf", "(internal/reflectlite.Value).Type", "(internal/reflectlite.Value).IsNil", "(internal/reflectlite.Value).Elem", "(internal/reflectlite.Value).Set"], unfollowed := true, recurses := true, named := ["boarder/msg.errForm", "errors.errorType"], apart := false, laid := [("errors.errorType", laid_errors_errorType), ("boarder/msg.errForm", laid_boarder_msg_errForm)] }
def ServerPlaysSaid : Prop := serverPlaysRow.holds Tryz.pinned (OpenSpec.ofChange serverPlaysSpec)

/-- ITS FALSE NEIGHBOUR: 'it returns false'. Refute it at one input. -/
def serverPlaysWrong : ChangeSpec := { name := "serverPlays", fn := fun _ => fun
  | [d1, d2] => { results := [.lit (.bool false)], args := [d1, d2] }
  | _ => none }
def ServerPlaysWrongFalsely : Prop := serverPlaysRow.holds Tryz.pinned (OpenSpec.ofChange serverPlaysWrong)

/-- 'boarderlaw21.ServerFirst': WHATEVER THE INPUT: true; the input reads as it did. -/
def serverFirstSpec : ChangeSpec := { name := "serverFirst", fn := fun _ => fun
  | [d1, d2, d3, d4, d5, d6] => { results := [.lit (.bool true)], args := [d1, d2, d3, d4, d5, d6] }
  | _ => none }
def serverFirstRow : OpenClaim := { program := "ytoilfihojgeonaagreatdoor", sum := "22d6f68d45f7cf2cf4f451c54959b6543ee88e662643ae34d7c9681997964136", func := "boarder/boarderlaw21.ServerFirst", spec := "serverFirst", inPlace := ["internal/reflectlite.TypeOf", "internal/reflectlite.ValueOf", "(internal/reflectlite.Value).Type", "(internal/reflectlite.Value).IsNil", "(internal/reflectlite.Value).Elem", "(internal/reflectlite.Value).Set"], unfollowed := true, recurses := true, named := ["boarder/msg.errForm", "errors.errorType"], apart := false, laid := [("errors.errorType", laid_errors_errorType), ("boarder/msg.errForm", laid_boarder_msg_errForm)] }
def ServerFirstSaid : Prop := serverFirstRow.holds Tryz.pinned (OpenSpec.ofChange serverFirstSpec)

/-- ITS FALSE NEIGHBOUR: 'it returns false'. Refute it at one input. -/
def serverFirstWrong : ChangeSpec := { name := "serverFirst", fn := fun _ => fun
  | [d1, d2, d3, d4, d5, d6] => { results := [.lit (.bool false)], args := [d1, d2, d3, d4, d5, d6] }
  | _ => none }
def ServerFirstWrongFalsely : Prop := serverFirstRow.holds Tryz.pinned (OpenSpec.ofChange serverFirstWrong)

/-- 'boarderlaw21.ServerFound': WHATEVER THE INPUT: true; the input reads as it did. -/
def serverFoundSpec : ChangeSpec := { name := "serverFound", fn := fun _ => fun
  | [d1, d2, d3, d4] => { results := [.lit (.bool true)], args := [d1, d2, d3, d4] }
  | _ => none }
def serverFoundRow : OpenClaim := { program := "ytoilfihojgeonaagreatdoor", sum := "22d6f68d45f7cf2cf4f451c54959b6543ee88e662643ae34d7c9681997964136", func := "boarder/boarderlaw21.ServerFound", spec := "serverFound", inPlace := ["internal/reflectlite.TypeOf", "internal/reflectlite.ValueOf", "(internal/reflectlite.Value).Type", "(internal/reflectlite.Value).IsNil", "(internal/reflectlite.Value).Elem", "(internal/reflectlite.Value).Set"], unfollowed := true, recurses := true, named := ["boarder/msg.errForm", "errors.errorType"], apart := false, laid := [("errors.errorType", laid_errors_errorType), ("boarder/msg.errForm", laid_boarder_msg_errForm)] }
def ServerFoundSaid : Prop := serverFoundRow.holds Tryz.pinned (OpenSpec.ofChange serverFoundSpec)

/-- ITS FALSE NEIGHBOUR: 'it returns false'. Refute it at one input. -/
def serverFoundWrong : ChangeSpec := { name := "serverFound", fn := fun _ => fun
  | [d1, d2, d3, d4] => { results := [.lit (.bool false)], args := [d1, d2, d3, d4] }
  | _ => none }
def ServerFoundWrongFalsely : Prop := serverFoundRow.holds Tryz.pinned (OpenSpec.ofChange serverFoundWrong)

/-- 'boarderlaw21.ServerCuts': WHATEVER THE INPUT: true; the input reads as it did. -/
def serverCutsSpec : ChangeSpec := { name := "serverCuts", fn := fun _ => fun
  | [d1, d2, d3, d4, d5, d6, d7] => { results := [.lit (.bool true)], args := [d1, d2, d3, d4, d5, d6, d7] }
  | _ => none }
def serverCutsRow : OpenClaim := { program := "ytoilfihojgeonaagreatdoor", sum := "22d6f68d45f7cf2cf4f451c54959b6543ee88e662643ae34d7c9681997964136", func := "boarder/boarderlaw21.ServerCuts", spec := "serverCuts", inPlace := ["internal/reflectlite.TypeOf", "internal/reflectlite.ValueOf", "(internal/reflectlite.Value).Type", "(internal/reflectlite.Value).IsNil", "(internal/reflectlite.Value).Elem", "(internal/reflectlite.Value).Set"], unfollowed := true, recurses := true, named := ["boarder/msg.errForm", "errors.errorType"], apart := false, laid := [("errors.errorType", laid_errors_errorType), ("boarder/msg.errForm", laid_boarder_msg_errForm)] }
def ServerCutsSaid : Prop := serverCutsRow.holds Tryz.pinned (OpenSpec.ofChange serverCutsSpec)

/-- ITS FALSE NEIGHBOUR: 'it returns false'. Refute it at one input. -/
def serverCutsWrong : ChangeSpec := { name := "serverCuts", fn := fun _ => fun
  | [d1, d2, d3, d4, d5, d6, d7] => { results := [.lit (.bool false)], args := [d1, d2, d3, d4, d5, d6, d7] }
  | _ => none }
def ServerCutsWrongFalsely : Prop := serverCutsRow.holds Tryz.pinned (OpenSpec.ofChange serverCutsWrong)

/-- 'boarderlaw21.ServerSilent': WHATEVER THE INPUT: true; the input reads as it did. -/
def serverSilentSpec : ChangeSpec := { name := "serverSilent", fn := fun _ => fun
  | [d1, d2, d3, d4] => { results := [.lit (.bool true)], args := [d1, d2, d3, d4] }
  | _ => none }
def serverSilentRow : OpenClaim := { program := "ytoilfihojgeonaagreatdoor", sum := "22d6f68d45f7cf2cf4f451c54959b6543ee88e662643ae34d7c9681997964136", func := "boarder/boarderlaw21.ServerSilent", spec := "serverSilent", inPlace := ["internal/reflectlite.TypeOf", "internal/reflectlite.ValueOf", "(internal/reflectlite.Value).Type", "(internal/reflectlite.Value).IsNil", "(internal/reflectlite.Value).Elem", "(internal/reflectlite.Value).Set"], unfollowed := true, recurses := true, named := ["boarder/msg.errForm", "errors.errorType"], apart := false, laid := [("errors.errorType", laid_errors_errorType), ("boarder/msg.errForm", laid_boarder_msg_errForm)] }
def ServerSilentSaid : Prop := serverSilentRow.holds Tryz.pinned (OpenSpec.ofChange serverSilentSpec)

/-- ITS FALSE NEIGHBOUR: 'it returns false'. Refute it at one input. -/
def serverSilentWrong : ChangeSpec := { name := "serverSilent", fn := fun _ => fun
  | [d1, d2, d3, d4] => { results := [.lit (.bool false)], args := [d1, d2, d3, d4] }
  | _ => none }
def ServerSilentWrongFalsely : Prop := serverSilentRow.holds Tryz.pinned (OpenSpec.ofChange serverSilentWrong)

/-- 'boarderlaw21.ServerCleans': WHATEVER THE INPUT: true; the input reads as it did. -/
def serverCleansSpec : ChangeSpec := { name := "serverCleans", fn := fun _ => fun
  | [d1, d2, d3, d4, d5] => { results := [.lit (.bool true)], args := [d1, d2, d3, d4, d5] }
  | _ => none }
def serverCleansRow : OpenClaim := { program := "ytoilfihojgeonaagreatdoor", sum := "22d6f68d45f7cf2cf4f451c54959b6543ee88e662643ae34d7c9681997964136", func := "boarder/boarderlaw21.ServerCleans", spec := "serverCleans", inPlace := ["internal/reflectlite.TypeOf", "internal/reflectlite.ValueOf", "(internal/reflectlite.Value).Type", "(internal/reflectlite.Value).IsNil", "(internal/reflectlite.Value).Elem", "(internal/reflectlite.Value).Set"], unfollowed := true, recurses := true, named := ["boarder/msg.errForm", "errors.errorType"], apart := false, laid := [("errors.errorType", laid_errors_errorType), ("boarder/msg.errForm", laid_boarder_msg_errForm)] }
def ServerCleansSaid : Prop := serverCleansRow.holds Tryz.pinned (OpenSpec.ofChange serverCleansSpec)

/-- ITS FALSE NEIGHBOUR: 'it returns false'. Refute it at one input. -/
def serverCleansWrong : ChangeSpec := { name := "serverCleans", fn := fun _ => fun
  | [d1, d2, d3, d4, d5] => { results := [.lit (.bool false)], args := [d1, d2, d3, d4, d5] }
  | _ => none }
def ServerCleansWrongFalsely : Prop := serverCleansRow.holds Tryz.pinned (OpenSpec.ofChange serverCleansWrong)

/-- 'boarderlaw22.WorldNotes': WHATEVER THE INPUT: true; the input reads as it did. -/
def worldNotesSpec : ChangeSpec := { name := "worldNotes", fn := fun _ => fun
  | [d1, d2] => { results := [.lit (.bool true)], args := [d1, d2] }
  | _ => none }
def worldNotesRow : OpenClaim := { program := "ytoilfihojgeonaagreatdoor", sum := "22d6f68d45f7cf2cf4f451c54959b6543ee88e662643ae34d7c9681997964136", func := "boarder/boarderlaw22.WorldNotes", spec := "worldNotes", inPlace := ["internal/reflectlite.TypeOf", "internal/reflectlite.ValueOf", "(internal/reflectlite.Value).Type", "(internal/reflectlite.Value).IsNil", "(internal/reflectlite.Value).Elem", "(internal/reflectlite.Value).Set"], unfollowed := true, recurses := true, named := ["boarder/msg.errForm", "errors.errorType"], apart := false, laid := [("errors.errorType", laid_errors_errorType), ("boarder/msg.errForm", laid_boarder_msg_errForm)] }
def WorldNotesSaid : Prop := worldNotesRow.holds Tryz.pinned (OpenSpec.ofChange worldNotesSpec)

/-- ITS FALSE NEIGHBOUR: 'it returns false'. Refute it at one input. -/
def worldNotesWrong : ChangeSpec := { name := "worldNotes", fn := fun _ => fun
  | [d1, d2] => { results := [.lit (.bool false)], args := [d1, d2] }
  | _ => none }
def WorldNotesWrongFalsely : Prop := worldNotesRow.holds Tryz.pinned (OpenSpec.ofChange worldNotesWrong)

/-- 'boarderlaw22.WorldPlays': WHATEVER THE INPUT: true; the input reads as it did. -/
def worldPlaysSpec : ChangeSpec := { name := "worldPlays", fn := fun _ => fun
  | [d1, d2] => { results := [.lit (.bool true)], args := [d1, d2] }
  | _ => none }
def worldPlaysRow : OpenClaim := { program := "ytoilfihojgeonaagreatdoor", sum := "22d6f68d45f7cf2cf4f451c54959b6543ee88e662643ae34d7c9681997964136", func := "boarder/boarderlaw22.WorldPlays", spec := "worldPlays", inPlace := ["internal/reflectlite.TypeOf", "internal/reflectlite.ValueOf", "(internal/reflectlite.Value).Type", "(internal/reflectlite.Value).IsNil", "(internal/reflectlite.Value).Elem", "(internal/reflectlite.Value).Set"], unfollowed := true, recurses := true, named := ["boarder/msg.errForm", "errors.errorType"], apart := false, laid := [("errors.errorType", laid_errors_errorType), ("boarder/msg.errForm", laid_boarder_msg_errForm)] }
def WorldPlaysSaid : Prop := worldPlaysRow.holds Tryz.pinned (OpenSpec.ofChange worldPlaysSpec)

/-- ITS FALSE NEIGHBOUR: 'it returns false'. Refute it at one input. -/
def worldPlaysWrong : ChangeSpec := { name := "worldPlays", fn := fun _ => fun
  | [d1, d2] => { results := [.lit (.bool false)], args := [d1, d2] }
  | _ => none }
def WorldPlaysWrongFalsely : Prop := worldPlaysRow.holds Tryz.pinned (OpenSpec.ofChange worldPlaysWrong)

/-- 'boarderlaw22.WorldNil': WHATEVER THE INPUT: true; the input reads as it did. -/
def worldNilSpec : ChangeSpec := { name := "worldNil", fn := fun _ => fun
  | [d] => { results := [.lit (.bool true)], args := [d] }
  | _ => none }
def worldNilRow : OpenClaim := { program := "ytoilfihojgeonaagreatdoor", sum := "22d6f68d45f7cf2cf4f451c54959b6543ee88e662643ae34d7c9681997964136", func := "boarder/boarderlaw22.WorldNil", spec := "worldNil", inPlace := ["internal/reflectlite.TypeOf", "internal/reflectlite.ValueOf", "(internal/reflectlite.Value).Type", "(internal/reflectlite.Value).IsNil", "(internal/reflectlite.Value).Elem", "(internal/reflectlite.Value).Set"], unfollowed := true, recurses := true, named := ["boarder/msg.errForm", "errors.errorType"], apart := false, laid := [("errors.errorType", laid_errors_errorType), ("boarder/msg.errForm", laid_boarder_msg_errForm)] }
def WorldNilSaid : Prop := worldNilRow.holds Tryz.pinned (OpenSpec.ofChange worldNilSpec)

/-- ITS FALSE NEIGHBOUR: 'it returns false'. Refute it at one input. -/
def worldNilWrong : ChangeSpec := { name := "worldNil", fn := fun _ => fun
  | [d] => { results := [.lit (.bool false)], args := [d] }
  | _ => none }
def WorldNilWrongFalsely : Prop := worldNilRow.holds Tryz.pinned (OpenSpec.ofChange worldNilWrong)

/-- 'boardertop.TopOne': WHATEVER THE INPUT: true; the input reads as it did. -/
def topOneSpec : ChangeSpec := { name := "topOne", fn := fun _ => fun
  | [d1, d2] => { results := [.lit (.bool true)], args := [d1, d2] }
  | _ => none }
def topOneRow : OpenClaim := { program := "ytoilfihojgeonaagreatdoor", sum := "22d6f68d45f7cf2cf4f451c54959b6543ee88e662643ae34d7c9681997964136", func := "boarder/boardertop.TopOne", spec := "topOne", inPlace := ["internal/reflectlite.TypeOf", "internal/reflectlite.ValueOf", "(internal/reflectlite.Value).Type", "(internal/reflectlite.Value).IsNil", "(internal/reflectlite.Value).Elem", "(internal/reflectlite.Value).Set"], unfollowed := true, recurses := true, named := ["boarder/msg.errForm", "errors.errorType"], apart := false, laid := [("errors.errorType", laid_errors_errorType), ("boarder/msg.errForm", laid_boarder_msg_errForm)] }
def TopOneSaid : Prop := topOneRow.holds Tryz.pinned (OpenSpec.ofChange topOneSpec)

/-- ITS FALSE NEIGHBOUR: 'it returns false'. Refute it at one input. -/
def topOneWrong : ChangeSpec := { name := "topOne", fn := fun _ => fun
  | [d1, d2] => { results := [.lit (.bool false)], args := [d1, d2] }
  | _ => none }
def TopOneWrongFalsely : Prop := topOneRow.holds Tryz.pinned (OpenSpec.ofChange topOneWrong)

/-- 'boardertop.TopPasses': WHATEVER THE INPUT: true; the input reads as it did. -/
def topPassesSpec : ChangeSpec := { name := "topPasses", fn := fun _ => fun
  | [d1, d2] => { results := [.lit (.bool true)], args := [d1, d2] }
  | _ => none }
def topPassesRow : OpenClaim := { program := "ytoilfihojgeonaagreatdoor", sum := "22d6f68d45f7cf2cf4f451c54959b6543ee88e662643ae34d7c9681997964136", func := "boarder/boardertop.TopPasses", spec := "topPasses", inPlace := ["internal/reflectlite.TypeOf", "internal/reflectlite.ValueOf", "(internal/reflectlite.Value).Type", "(internal/reflectlite.Value).IsNil", "(internal/reflectlite.Value).Elem", "(internal/reflectlite.Value).Set"], unfollowed := true, recurses := true, named := ["boarder/msg.errForm", "errors.errorType"], apart := false, laid := [("errors.errorType", laid_errors_errorType), ("boarder/msg.errForm", laid_boarder_msg_errForm)] }
def TopPassesSaid : Prop := topPassesRow.holds Tryz.pinned (OpenSpec.ofChange topPassesSpec)

/-- ITS FALSE NEIGHBOUR: 'it returns false'. Refute it at one input. -/
def topPassesWrong : ChangeSpec := { name := "topPasses", fn := fun _ => fun
  | [d1, d2] => { results := [.lit (.bool false)], args := [d1, d2] }
  | _ => none }
def TopPassesWrongFalsely : Prop := topPassesRow.holds Tryz.pinned (OpenSpec.ofChange topPassesWrong)

/-- 'boardertop.TopOnce': WHATEVER THE INPUT: true; the input reads as it did. -/
def topOnceSpec : ChangeSpec := { name := "topOnce", fn := fun _ => fun
  | [d1, d2] => { results := [.lit (.bool true)], args := [d1, d2] }
  | _ => none }
def topOnceRow : OpenClaim := { program := "ytoilfihojgeonaagreatdoor", sum := "22d6f68d45f7cf2cf4f451c54959b6543ee88e662643ae34d7c9681997964136", func := "boarder/boardertop.TopOnce", spec := "topOnce", inPlace := ["internal/reflectlite.TypeOf", "internal/reflectlite.ValueOf", "(internal/reflectlite.Value).Type", "(internal/reflectlite.Value).IsNil", "(internal/reflectlite.Value).Elem", "(internal/reflectlite.Value).Set"], unfollowed := true, recurses := true, named := ["boarder/msg.errForm", "errors.errorType"], apart := false, laid := [("errors.errorType", laid_errors_errorType), ("boarder/msg.errForm", laid_boarder_msg_errForm)] }
def TopOnceSaid : Prop := topOnceRow.holds Tryz.pinned (OpenSpec.ofChange topOnceSpec)

/-- ITS FALSE NEIGHBOUR: 'it returns false'. Refute it at one input. -/
def topOnceWrong : ChangeSpec := { name := "topOnce", fn := fun _ => fun
  | [d1, d2] => { results := [.lit (.bool false)], args := [d1, d2] }
  | _ => none }
def TopOnceWrongFalsely : Prop := topOnceRow.holds Tryz.pinned (OpenSpec.ofChange topOnceWrong)

/- THE SECOND FORM. 'bulk': how many values and letters a reading holds, each counted each time it is reached (what is shared counts as often as it is met; a slice's spare places count too). A statement '..UptoSaid' is the law's where the arguments, and the package variables that the reading takes, are together of bulk at most 1048576: NARROWER than '..Said'. Prove '..Said' where nothing that the law and all that it calls make is longer than what came in: it says more and counts as full. Else prove '..UptoSaid'. A law counts once. -/
mutual
def uptoBulk {H : Type} : DataW H → Nat
  | .lit (.string bytes) => bytes.length + 1
  | .lit _ => 1
  | .nil => 1
  | .ptr d => uptoBulk d + 1
  | .slice elems spare => uptoBulkAll elems + uptoBulkAll spare + 1
  | .agg parts => uptoBulkAll parts + 1
  | .iface _ d => uptoBulk d + 1
  | .map entries => uptoBulkEntries entries + 1
  | .held _ => 1
def uptoBulkAll {H : Type} : List (DataW H) → Nat
  | [] => 0
  | d :: r => uptoBulk d + uptoBulkAll r
def uptoBulkEntries {H : Type} : List (Lit × DataW H) → Nat
  | [] => 0
  | x :: r => uptoBulkEntry x + uptoBulkEntries r
def uptoBulkEntry {H : Type} : Lit × DataW H → Nat
  | (.string bytes, d) => bytes.length + uptoBulk d + 1
  | (_, d) => uptoBulk d + 1
 end
def uptoSmall : (H : Type) → List (DataW H) → Bool := fun _ ds => decide (uptoBulkAll ds ≤ 1048576)
def OpenSpec.upto (s : _root_.Go.ChangeSpec) : _root_.Go.OpenSpec := { _root_.Go.OpenSpec.ofChange s with cond := some uptoSmall }

/-- 'boarderlaw21.ServerPlays', WHERE WHAT IT READS IS OF BULK AT MOST 1048576: true; the input reads as it did. -/
def serverPlaysUptoRow : OpenClaim := { program := "ytoilfihojgeonaagreatdoor", sum := "22d6f68d45f7cf2cf4f451c54959b6543ee88e662643ae34d7c9681997964136", func := "boarder/boarderlaw21.ServerPlays", spec := "serverPlays", inPlace := ["internal/reflectlite.TypeOf", "internal/reflectlite.ValueOf", "(internal/reflectlite.Value).Type", "(internal/reflectlite.Value).IsNil", "(internal/reflectlite.Value).Elem", "(internal/reflectlite.Value).Set"], unfollowed := true, recurses := true, named := ["boarder/msg.errForm", "errors.errorType"], apart := false, laid := [("errors.errorType", laid_errors_errorType), ("boarder/msg.errForm", laid_boarder_msg_errForm)], narrowed := true }
def ServerPlaysUptoSaid : Prop := serverPlaysUptoRow.holds Tryz.pinned (OpenSpec.upto serverPlaysSpec)

/-- 'boarderlaw21.ServerFirst', WHERE WHAT IT READS IS OF BULK AT MOST 1048576: true; the input reads as it did. -/
def serverFirstUptoRow : OpenClaim := { program := "ytoilfihojgeonaagreatdoor", sum := "22d6f68d45f7cf2cf4f451c54959b6543ee88e662643ae34d7c9681997964136", func := "boarder/boarderlaw21.ServerFirst", spec := "serverFirst", inPlace := ["internal/reflectlite.TypeOf", "internal/reflectlite.ValueOf", "(internal/reflectlite.Value).Type", "(internal/reflectlite.Value).IsNil", "(internal/reflectlite.Value).Elem", "(internal/reflectlite.Value).Set"], unfollowed := true, recurses := true, named := ["boarder/msg.errForm", "errors.errorType"], apart := false, laid := [("errors.errorType", laid_errors_errorType), ("boarder/msg.errForm", laid_boarder_msg_errForm)], narrowed := true }
def ServerFirstUptoSaid : Prop := serverFirstUptoRow.holds Tryz.pinned (OpenSpec.upto serverFirstSpec)

/-- 'boarderlaw21.ServerFound', WHERE WHAT IT READS IS OF BULK AT MOST 1048576: true; the input reads as it did. -/
def serverFoundUptoRow : OpenClaim := { program := "ytoilfihojgeonaagreatdoor", sum := "22d6f68d45f7cf2cf4f451c54959b6543ee88e662643ae34d7c9681997964136", func := "boarder/boarderlaw21.ServerFound", spec := "serverFound", inPlace := ["internal/reflectlite.TypeOf", "internal/reflectlite.ValueOf", "(internal/reflectlite.Value).Type", "(internal/reflectlite.Value).IsNil", "(internal/reflectlite.Value).Elem", "(internal/reflectlite.Value).Set"], unfollowed := true, recurses := true, named := ["boarder/msg.errForm", "errors.errorType"], apart := false, laid := [("errors.errorType", laid_errors_errorType), ("boarder/msg.errForm", laid_boarder_msg_errForm)], narrowed := true }
def ServerFoundUptoSaid : Prop := serverFoundUptoRow.holds Tryz.pinned (OpenSpec.upto serverFoundSpec)

/-- 'boarderlaw21.ServerCuts', WHERE WHAT IT READS IS OF BULK AT MOST 1048576: true; the input reads as it did. -/
def serverCutsUptoRow : OpenClaim := { program := "ytoilfihojgeonaagreatdoor", sum := "22d6f68d45f7cf2cf4f451c54959b6543ee88e662643ae34d7c9681997964136", func := "boarder/boarderlaw21.ServerCuts", spec := "serverCuts", inPlace := ["internal/reflectlite.TypeOf", "internal/reflectlite.ValueOf", "(internal/reflectlite.Value).Type", "(internal/reflectlite.Value).IsNil", "(internal/reflectlite.Value).Elem", "(internal/reflectlite.Value).Set"], unfollowed := true, recurses := true, named := ["boarder/msg.errForm", "errors.errorType"], apart := false, laid := [("errors.errorType", laid_errors_errorType), ("boarder/msg.errForm", laid_boarder_msg_errForm)], narrowed := true }
def ServerCutsUptoSaid : Prop := serverCutsUptoRow.holds Tryz.pinned (OpenSpec.upto serverCutsSpec)

/-- 'boarderlaw21.ServerSilent', WHERE WHAT IT READS IS OF BULK AT MOST 1048576: true; the input reads as it did. -/
def serverSilentUptoRow : OpenClaim := { program := "ytoilfihojgeonaagreatdoor", sum := "22d6f68d45f7cf2cf4f451c54959b6543ee88e662643ae34d7c9681997964136", func := "boarder/boarderlaw21.ServerSilent", spec := "serverSilent", inPlace := ["internal/reflectlite.TypeOf", "internal/reflectlite.ValueOf", "(internal/reflectlite.Value).Type", "(internal/reflectlite.Value).IsNil", "(internal/reflectlite.Value).Elem", "(internal/reflectlite.Value).Set"], unfollowed := true, recurses := true, named := ["boarder/msg.errForm", "errors.errorType"], apart := false, laid := [("errors.errorType", laid_errors_errorType), ("boarder/msg.errForm", laid_boarder_msg_errForm)], narrowed := true }
def ServerSilentUptoSaid : Prop := serverSilentUptoRow.holds Tryz.pinned (OpenSpec.upto serverSilentSpec)

/-- 'boarderlaw21.ServerCleans', WHERE WHAT IT READS IS OF BULK AT MOST 1048576: true; the input reads as it did. -/
def serverCleansUptoRow : OpenClaim := { program := "ytoilfihojgeonaagreatdoor", sum := "22d6f68d45f7cf2cf4f451c54959b6543ee88e662643ae34d7c9681997964136", func := "boarder/boarderlaw21.ServerCleans", spec := "serverCleans", inPlace := ["internal/reflectlite.TypeOf", "internal/reflectlite.ValueOf", "(internal/reflectlite.Value).Type", "(internal/reflectlite.Value).IsNil", "(internal/reflectlite.Value).Elem", "(internal/reflectlite.Value).Set"], unfollowed := true, recurses := true, named := ["boarder/msg.errForm", "errors.errorType"], apart := false, laid := [("errors.errorType", laid_errors_errorType), ("boarder/msg.errForm", laid_boarder_msg_errForm)], narrowed := true }
def ServerCleansUptoSaid : Prop := serverCleansUptoRow.holds Tryz.pinned (OpenSpec.upto serverCleansSpec)

/-- 'boarderlaw22.WorldNotes', WHERE WHAT IT READS IS OF BULK AT MOST 1048576: true; the input reads as it did. -/
def worldNotesUptoRow : OpenClaim := { program := "ytoilfihojgeonaagreatdoor", sum := "22d6f68d45f7cf2cf4f451c54959b6543ee88e662643ae34d7c9681997964136", func := "boarder/boarderlaw22.WorldNotes", spec := "worldNotes", inPlace := ["internal/reflectlite.TypeOf", "internal/reflectlite.ValueOf", "(internal/reflectlite.Value).Type", "(internal/reflectlite.Value).IsNil", "(internal/reflectlite.Value).Elem", "(internal/reflectlite.Value).Set"], unfollowed := true, recurses := true, named := ["boarder/msg.errForm", "errors.errorType"], apart := false, laid := [("errors.errorType", laid_errors_errorType), ("boarder/msg.errForm", laid_boarder_msg_errForm)], narrowed := true }
def WorldNotesUptoSaid : Prop := worldNotesUptoRow.holds Tryz.pinned (OpenSpec.upto worldNotesSpec)

/-- 'boarderlaw22.WorldPlays', WHERE WHAT IT READS IS OF BULK AT MOST 1048576: true; the input reads as it did. -/
def worldPlaysUptoRow : OpenClaim := { program := "ytoilfihojgeonaagreatdoor", sum := "22d6f68d45f7cf2cf4f451c54959b6543ee88e662643ae34d7c9681997964136", func := "boarder/boarderlaw22.WorldPlays", spec := "worldPlays", inPlace := ["internal/reflectlite.TypeOf", "internal/reflectlite.ValueOf", "(internal/reflectlite.Value).Type", "(internal/reflectlite.Value).IsNil", "(internal/reflectlite.Value).Elem", "(internal/reflectlite.Value).Set"], unfollowed := true, recurses := true, named := ["boarder/msg.errForm", "errors.errorType"], apart := false, laid := [("errors.errorType", laid_errors_errorType), ("boarder/msg.errForm", laid_boarder_msg_errForm)], narrowed := true }
def WorldPlaysUptoSaid : Prop := worldPlaysUptoRow.holds Tryz.pinned (OpenSpec.upto worldPlaysSpec)

/-- 'boarderlaw22.WorldNil', WHERE WHAT IT READS IS OF BULK AT MOST 1048576: true; the input reads as it did. -/
def worldNilUptoRow : OpenClaim := { program := "ytoilfihojgeonaagreatdoor", sum := "22d6f68d45f7cf2cf4f451c54959b6543ee88e662643ae34d7c9681997964136", func := "boarder/boarderlaw22.WorldNil", spec := "worldNil", inPlace := ["internal/reflectlite.TypeOf", "internal/reflectlite.ValueOf", "(internal/reflectlite.Value).Type", "(internal/reflectlite.Value).IsNil", "(internal/reflectlite.Value).Elem", "(internal/reflectlite.Value).Set"], unfollowed := true, recurses := true, named := ["boarder/msg.errForm", "errors.errorType"], apart := false, laid := [("errors.errorType", laid_errors_errorType), ("boarder/msg.errForm", laid_boarder_msg_errForm)], narrowed := true }
def WorldNilUptoSaid : Prop := worldNilUptoRow.holds Tryz.pinned (OpenSpec.upto worldNilSpec)

/-- 'boardertop.TopOne', WHERE WHAT IT READS IS OF BULK AT MOST 1048576: true; the input reads as it did. -/
def topOneUptoRow : OpenClaim := { program := "ytoilfihojgeonaagreatdoor", sum := "22d6f68d45f7cf2cf4f451c54959b6543ee88e662643ae34d7c9681997964136", func := "boarder/boardertop.TopOne", spec := "topOne", inPlace := ["internal/reflectlite.TypeOf", "internal/reflectlite.ValueOf", "(internal/reflectlite.Value).Type", "(internal/reflectlite.Value).IsNil", "(internal/reflectlite.Value).Elem", "(internal/reflectlite.Value).Set"], unfollowed := true, recurses := true, named := ["boarder/msg.errForm", "errors.errorType"], apart := false, laid := [("errors.errorType", laid_errors_errorType), ("boarder/msg.errForm", laid_boarder_msg_errForm)], narrowed := true }
def TopOneUptoSaid : Prop := topOneUptoRow.holds Tryz.pinned (OpenSpec.upto topOneSpec)

/-- 'boardertop.TopPasses', WHERE WHAT IT READS IS OF BULK AT MOST 1048576: true; the input reads as it did. -/
def topPassesUptoRow : OpenClaim := { program := "ytoilfihojgeonaagreatdoor", sum := "22d6f68d45f7cf2cf4f451c54959b6543ee88e662643ae34d7c9681997964136", func := "boarder/boardertop.TopPasses", spec := "topPasses", inPlace := ["internal/reflectlite.TypeOf", "internal/reflectlite.ValueOf", "(internal/reflectlite.Value).Type", "(internal/reflectlite.Value).IsNil", "(internal/reflectlite.Value).Elem", "(internal/reflectlite.Value).Set"], unfollowed := true, recurses := true, named := ["boarder/msg.errForm", "errors.errorType"], apart := false, laid := [("errors.errorType", laid_errors_errorType), ("boarder/msg.errForm", laid_boarder_msg_errForm)], narrowed := true }
def TopPassesUptoSaid : Prop := topPassesUptoRow.holds Tryz.pinned (OpenSpec.upto topPassesSpec)

/-- 'boardertop.TopOnce', WHERE WHAT IT READS IS OF BULK AT MOST 1048576: true; the input reads as it did. -/
def topOnceUptoRow : OpenClaim := { program := "ytoilfihojgeonaagreatdoor", sum := "22d6f68d45f7cf2cf4f451c54959b6543ee88e662643ae34d7c9681997964136", func := "boarder/boardertop.TopOnce", spec := "topOnce", inPlace := ["internal/reflectlite.TypeOf", "internal/reflectlite.ValueOf", "(internal/reflectlite.Value).Type", "(internal/reflectlite.Value).IsNil", "(internal/reflectlite.Value).Elem", "(internal/reflectlite.Value).Set"], unfollowed := true, recurses := true, named := ["boarder/msg.errForm", "errors.errorType"], apart := false, laid := [("errors.errorType", laid_errors_errorType), ("boarder/msg.errForm", laid_boarder_msg_errForm)], narrowed := true }
def TopOnceUptoSaid : Prop := topOnceUptoRow.holds Tryz.pinned (OpenSpec.upto topOnceSpec)

end Rows
end Go.Proofs.YtoilfihojgeonaaGreatDoor
