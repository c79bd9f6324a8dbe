/-
  NARROWER THAN 'FOR EVERY INPUT', by the rows' own cells (each row's printed sentence says how): MsgRights: laid · MsgWrites: laid · MsgReads: laid · MsgBack: laid · MsgAny: laid · MsgAreas: laid · ReplyWrites: laid.
  DERIVED. THE GIVEN ROWS OF THIS SEAT. 7 by the template 'for every input the law returns true; each argument reads behind the call as it read before'; 0 by the template 'total and deterministic' (their statements: YtimlalndjfmnbaaDoorTotals.lean).
  GIVEN WITH THE SEED: the statements are not yours to turn. If you find one false, say at which input.
  Laid BY PROGRAM, IN A SANDBOX (cutbox-rows.mjs): the forced cells as the released guide's own fill.sh prints them over the translation 72dc6cac294a681d… (all of the seat's roots in one cut). By AI agents, Wed Nov 11 2026. No macro, syntax, notation, axiom, sorry.
-/
import Derived.Test.YtimlalndjfmnbaaDoorChecked
import GoSem.Claim
import GoSem.ClaimJoined
import GoSem.ClaimMapViews
import Derived.JoinedTies
import Derived.KernelRfl
namespace Go.Proofs.YtimlalndjfmnbaaDoor
/- THE CELL 'sum', in the pinned program and in every row, IS THE sha256 OF THE DUMP (.gsa) THAT YtimlalndjfmnbaaDoorProg.lean LOADS. Nothing in Lean hashes anything: it is a label: what it is worth is what the hold of that sum in a sandbox is worth. -/
noncomputable def Tryd.pinned : Pinned := { name := "ytimlalndjfmnbaadoor", sum := "72dc6cac294a681d2e6378f19d6edd8230d2c2b8673ce26c8ed11615cea14c6b", checked := Tryd.checked }
namespace Rows
def none {H : Type} : Left H := { results := [], args := [] }

/- WHAT THE LISTED PACKAGE-LEVEL VARIABLES READ AS WHEN THE CALL BEGINS. Each datum BY PROGRAM (the guide's laid-datum.mjs) off the statement by which the dump's own 'gosem.cut.vars' lays the variable. In a bare row this is a premise. The card (YtimlalndjfmnbaaDoorCards.lean) ties it to the program's text. -/
def laid_errors_errorType {H : Type} : DataW H := .iface "internal/reflectlite.rtype" (.agg [.ptr (.lit (.string [101, 114, 114, 111, 114]))])
def laid_boarder_msg_errForm {H : Type} : DataW H := .agg [.lit (.int .i64 2)]

/-- 'boarderlaw04.MsgRights': WHATEVER THE INPUT: true; the input reads as it did. -/
def msgRightsSpec : ChangeSpec := { name := "msgRights", fn := fun _ => fun
  | [d] => { results := [.lit (.bool true)], args := [d] }
  | _ => none }
def msgRightsRow : OpenClaim := { program := "ytimlalndjfmnbaadoor", sum := "72dc6cac294a681d2e6378f19d6edd8230d2c2b8673ce26c8ed11615cea14c6b", func := "boarder/boarderlaw04.MsgRights", spec := "msgRights", inPlace := ["internal/reflectlite.TypeOf", "internal/reflectlite.ValueOf", "(internal/reflectlite.Value).Type", "(internal/reflectlite.Value).IsNil", "(internal/reflectlite.Value).Elem", "(internal/reflectlite.Value).Set"], unfollowed := true, recurses := true, named := ["boarder/msg.errForm", "errors.errorType"], apart := false, laid := [("errors.errorType", laid_errors_errorType), ("boarder/msg.errForm", laid_boarder_msg_errForm)] }
def MsgRightsSaid : Prop := msgRightsRow.holds Tryd.pinned (OpenSpec.ofChange msgRightsSpec)

/-- ITS FALSE NEIGHBOUR: 'it returns false'. Refute it at one input. -/
def msgRightsWrong : ChangeSpec := { name := "msgRights", fn := fun _ => fun
  | [d] => { results := [.lit (.bool false)], args := [d] }
  | _ => none }
def MsgRightsWrongFalsely : Prop := msgRightsRow.holds Tryd.pinned (OpenSpec.ofChange msgRightsWrong)

/-- 'boarderlaw04.MsgWrites': WHATEVER THE INPUT: true; the input reads as it did. -/
def msgWritesSpec : ChangeSpec := { name := "msgWrites", fn := fun _ => fun
  | [d] => { results := [.lit (.bool true)], args := [d] }
  | _ => none }
def msgWritesRow : OpenClaim := { program := "ytimlalndjfmnbaadoor", sum := "72dc6cac294a681d2e6378f19d6edd8230d2c2b8673ce26c8ed11615cea14c6b", func := "boarder/boarderlaw04.MsgWrites", spec := "msgWrites", inPlace := ["internal/reflectlite.TypeOf", "internal/reflectlite.ValueOf", "(internal/reflectlite.Value).Type", "(internal/reflectlite.Value).IsNil", "(internal/reflectlite.Value).Elem", "(internal/reflectlite.Value).Set"], unfollowed := true, recurses := true, named := ["boarder/msg.errForm", "errors.errorType"], apart := false, laid := [("errors.errorType", laid_errors_errorType), ("boarder/msg.errForm", laid_boarder_msg_errForm)] }
def MsgWritesSaid : Prop := msgWritesRow.holds Tryd.pinned (OpenSpec.ofChange msgWritesSpec)

/-- ITS FALSE NEIGHBOUR: 'it returns false'. Refute it at one input. -/
def msgWritesWrong : ChangeSpec := { name := "msgWrites", fn := fun _ => fun
  | [d] => { results := [.lit (.bool false)], args := [d] }
  | _ => none }
def MsgWritesWrongFalsely : Prop := msgWritesRow.holds Tryd.pinned (OpenSpec.ofChange msgWritesWrong)

/-- 'boarderlaw04.MsgReads': WHATEVER THE INPUT: true; the input reads as it did. -/
def msgReadsSpec : ChangeSpec := { name := "msgReads", fn := fun _ => fun
  | [d] => { results := [.lit (.bool true)], args := [d] }
  | _ => none }
def msgReadsRow : OpenClaim := { program := "ytimlalndjfmnbaadoor", sum := "72dc6cac294a681d2e6378f19d6edd8230d2c2b8673ce26c8ed11615cea14c6b", func := "boarder/boarderlaw04.MsgReads", spec := "msgReads", inPlace := ["internal/reflectlite.TypeOf", "internal/reflectlite.ValueOf", "(internal/reflectlite.Value).Type", "(internal/reflectlite.Value).IsNil", "(internal/reflectlite.Value).Elem", "(internal/reflectlite.Value).Set"], unfollowed := true, recurses := true, named := ["boarder/msg.errForm", "errors.errorType"], apart := false, laid := [("errors.errorType", laid_errors_errorType), ("boarder/msg.errForm", laid_boarder_msg_errForm)] }
def MsgReadsSaid : Prop := msgReadsRow.holds Tryd.pinned (OpenSpec.ofChange msgReadsSpec)

/-- ITS FALSE NEIGHBOUR: 'it returns false'. Refute it at one input. -/
def msgReadsWrong : ChangeSpec := { name := "msgReads", fn := fun _ => fun
  | [d] => { results := [.lit (.bool false)], args := [d] }
  | _ => none }
def MsgReadsWrongFalsely : Prop := msgReadsRow.holds Tryd.pinned (OpenSpec.ofChange msgReadsWrong)

/-- 'boarderlaw04.MsgBack': WHATEVER THE INPUT: true; the input reads as it did. -/
def msgBackSpec : ChangeSpec := { name := "msgBack", fn := fun _ => fun
  | [d] => { results := [.lit (.bool true)], args := [d] }
  | _ => none }
def msgBackRow : OpenClaim := { program := "ytimlalndjfmnbaadoor", sum := "72dc6cac294a681d2e6378f19d6edd8230d2c2b8673ce26c8ed11615cea14c6b", func := "boarder/boarderlaw04.MsgBack", spec := "msgBack", inPlace := ["internal/reflectlite.TypeOf", "internal/reflectlite.ValueOf", "(internal/reflectlite.Value).Type", "(internal/reflectlite.Value).IsNil", "(internal/reflectlite.Value).Elem", "(internal/reflectlite.Value).Set"], unfollowed := true, recurses := true, named := ["boarder/msg.errForm", "errors.errorType"], apart := false, laid := [("errors.errorType", laid_errors_errorType), ("boarder/msg.errForm", laid_boarder_msg_errForm)] }
def MsgBackSaid : Prop := msgBackRow.holds Tryd.pinned (OpenSpec.ofChange msgBackSpec)

/-- ITS FALSE NEIGHBOUR: 'it returns false'. Refute it at one input. -/
def msgBackWrong : ChangeSpec := { name := "msgBack", fn := fun _ => fun
  | [d] => { results := [.lit (.bool false)], args := [d] }
  | _ => none }
def MsgBackWrongFalsely : Prop := msgBackRow.holds Tryd.pinned (OpenSpec.ofChange msgBackWrong)

/-- 'boarderlaw04.MsgAny': WHATEVER THE INPUT: true; the input reads as it did. -/
def msgAnySpec : ChangeSpec := { name := "msgAny", fn := fun _ => fun
  | [d] => { results := [.lit (.bool true)], args := [d] }
  | _ => none }
def msgAnyRow : OpenClaim := { program := "ytimlalndjfmnbaadoor", sum := "72dc6cac294a681d2e6378f19d6edd8230d2c2b8673ce26c8ed11615cea14c6b", func := "boarder/boarderlaw04.MsgAny", spec := "msgAny", inPlace := ["internal/reflectlite.TypeOf", "internal/reflectlite.ValueOf", "(internal/reflectlite.Value).Type", "(internal/reflectlite.Value).IsNil", "(internal/reflectlite.Value).Elem", "(internal/reflectlite.Value).Set"], unfollowed := true, recurses := true, named := ["boarder/msg.errForm", "errors.errorType"], apart := false, laid := [("errors.errorType", laid_errors_errorType), ("boarder/msg.errForm", laid_boarder_msg_errForm)] }
def MsgAnySaid : Prop := msgAnyRow.holds Tryd.pinned (OpenSpec.ofChange msgAnySpec)

/-- ITS FALSE NEIGHBOUR: 'it returns false'. Refute it at one input. -/
def msgAnyWrong : ChangeSpec := { name := "msgAny", fn := fun _ => fun
  | [d] => { results := [.lit (.bool false)], args := [d] }
  | _ => none }
def MsgAnyWrongFalsely : Prop := msgAnyRow.holds Tryd.pinned (OpenSpec.ofChange msgAnyWrong)

/-- 'boarderlaw04.MsgAreas': WHATEVER THE INPUT: true; the input reads as it did. -/
def msgAreasSpec : ChangeSpec := { name := "msgAreas", fn := fun _ => fun
  | [d1, d2, d3] => { results := [.lit (.bool true)], args := [d1, d2, d3] }
  | _ => none }
def msgAreasRow : OpenClaim := { program := "ytimlalndjfmnbaadoor", sum := "72dc6cac294a681d2e6378f19d6edd8230d2c2b8673ce26c8ed11615cea14c6b", func := "boarder/boarderlaw04.MsgAreas", spec := "msgAreas", inPlace := ["internal/reflectlite.TypeOf", "internal/reflectlite.ValueOf", "(internal/reflectlite.Value).Type", "(internal/reflectlite.Value).IsNil", "(internal/reflectlite.Value).Elem", "(internal/reflectlite.Value).Set"], unfollowed := true, recurses := true, named := ["boarder/msg.errForm", "errors.errorType"], apart := false, laid := [("errors.errorType", laid_errors_errorType), ("boarder/msg.errForm", laid_boarder_msg_errForm)] }
def MsgAreasSaid : Prop := msgAreasRow.holds Tryd.pinned (OpenSpec.ofChange msgAreasSpec)

/-- ITS FALSE NEIGHBOUR: 'it returns false'. Refute it at one input. -/
def msgAreasWrong : ChangeSpec := { name := "msgAreas", fn := fun _ => fun
  | [d1, d2, d3] => { results := [.lit (.bool false)], args := [d1, d2, d3] }
  | _ => none }
def MsgAreasWrongFalsely : Prop := msgAreasRow.holds Tryd.pinned (OpenSpec.ofChange msgAreasWrong)

/-- 'boarderlaw18.ReplyWrites': WHATEVER THE INPUT: true; the input reads as it did. -/
def replyWritesSpec : ChangeSpec := { name := "replyWrites", fn := fun _ => fun
  | [d1, d2, d3, d4, d5, d6] => { results := [.lit (.bool true)], args := [d1, d2, d3, d4, d5, d6] }
  | _ => none }
def replyWritesRow : OpenClaim := { program := "ytimlalndjfmnbaadoor", sum := "72dc6cac294a681d2e6378f19d6edd8230d2c2b8673ce26c8ed11615cea14c6b", func := "boarder/boarderlaw18.ReplyWrites", spec := "replyWrites", inPlace := ["internal/reflectlite.TypeOf", "internal/reflectlite.ValueOf", "(internal/reflectlite.Value).Type", "(internal/reflectlite.Value).IsNil", "(internal/reflectlite.Value).Elem", "(internal/reflectlite.Value).Set"], unfollowed := true, recurses := true, named := ["boarder/msg.errForm", "errors.errorType"], apart := false, laid := [("errors.errorType", laid_errors_errorType), ("boarder/msg.errForm", laid_boarder_msg_errForm)] }
def ReplyWritesSaid : Prop := replyWritesRow.holds Tryd.pinned (OpenSpec.ofChange replyWritesSpec)

/-- ITS FALSE NEIGHBOUR: 'it returns false'. Refute it at one input. -/
def replyWritesWrong : ChangeSpec := { name := "replyWrites", fn := fun _ => fun
  | [d1, d2, d3, d4, d5, d6] => { results := [.lit (.bool false)], args := [d1, d2, d3, d4, d5, d6] }
  | _ => none }
def ReplyWritesWrongFalsely : Prop := replyWritesRow.holds Tryd.pinned (OpenSpec.ofChange replyWritesWrong)

/- THE SECOND FORM. 'bulk': how many values and letters a reading holds, each counted each time it is reached (what is shared counts as often as it is met; a slice's spare places count too). A statement '..UptoSaid' is the law's where the arguments, and the package variables that the reading takes, are together of bulk at most 1048576: NARROWER than '..Said'. Prove '..Said' where nothing that the law and all that it calls make is longer than what came in: it says more and counts as full. Else prove '..UptoSaid'. A law counts once. -/
mutual
def uptoBulk {H : Type} : DataW H → Nat
  | .lit (.string bytes) => bytes.length + 1
  | .lit _ => 1
  | .nil => 1
  | .ptr d => uptoBulk d + 1
  | .slice elems spare => uptoBulkAll elems + uptoBulkAll spare + 1
  | .agg parts => uptoBulkAll parts + 1
  | .iface _ d => uptoBulk d + 1
  | .map entries => uptoBulkEntries entries + 1
  | .held _ => 1
def uptoBulkAll {H : Type} : List (DataW H) → Nat
  | [] => 0
  | d :: r => uptoBulk d + uptoBulkAll r
def uptoBulkEntries {H : Type} : List (Lit × DataW H) → Nat
  | [] => 0
  | x :: r => uptoBulkEntry x + uptoBulkEntries r
def uptoBulkEntry {H : Type} : Lit × DataW H → Nat
  | (.string bytes, d) => bytes.length + uptoBulk d + 1
  | (_, d) => uptoBulk d + 1
 end
def uptoSmall : (H : Type) → List (DataW H) → Bool := fun _ ds => decide (uptoBulkAll ds ≤ 1048576)
def OpenSpec.upto (s : _root_.Go.ChangeSpec) : _root_.Go.OpenSpec := { _root_.Go.OpenSpec.ofChange s with cond := some uptoSmall }

/-- 'boarderlaw04.MsgRights', WHERE WHAT IT READS IS OF BULK AT MOST 1048576: true; the input reads as it did. -/
def msgRightsUptoRow : OpenClaim := { program := "ytimlalndjfmnbaadoor", sum := "72dc6cac294a681d2e6378f19d6edd8230d2c2b8673ce26c8ed11615cea14c6b", func := "boarder/boarderlaw04.MsgRights", spec := "msgRights", inPlace := ["internal/reflectlite.TypeOf", "internal/reflectlite.ValueOf", "(internal/reflectlite.Value).Type", "(internal/reflectlite.Value).IsNil", "(internal/reflectlite.Value).Elem", "(internal/reflectlite.Value).Set"], unfollowed := true, recurses := true, named := ["boarder/msg.errForm", "errors.errorType"], apart := false, laid := [("errors.errorType", laid_errors_errorType), ("boarder/msg.errForm", laid_boarder_msg_errForm)], narrowed := true }
def MsgRightsUptoSaid : Prop := msgRightsUptoRow.holds Tryd.pinned (OpenSpec.upto msgRightsSpec)

/-- 'boarderlaw04.MsgWrites', WHERE WHAT IT READS IS OF BULK AT MOST 1048576: true; the input reads as it did. -/
def msgWritesUptoRow : OpenClaim := { program := "ytimlalndjfmnbaadoor", sum := "72dc6cac294a681d2e6378f19d6edd8230d2c2b8673ce26c8ed11615cea14c6b", func := "boarder/boarderlaw04.MsgWrites", spec := "msgWrites", inPlace := ["internal/reflectlite.TypeOf", "internal/reflectlite.ValueOf", "(internal/reflectlite.Value).Type", "(internal/reflectlite.Value).IsNil", "(internal/reflectlite.Value).Elem", "(internal/reflectlite.Value).Set"], unfollowed := true, recurses := true, named := ["boarder/msg.errForm", "errors.errorType"], apart := false, laid := [("errors.errorType", laid_errors_errorType), ("boarder/msg.errForm", laid_boarder_msg_errForm)], narrowed := true }
def MsgWritesUptoSaid : Prop := msgWritesUptoRow.holds Tryd.pinned (OpenSpec.upto msgWritesSpec)

/-- 'boarderlaw04.MsgReads', WHERE WHAT IT READS IS OF BULK AT MOST 1048576: true; the input reads as it did. -/
def msgReadsUptoRow : OpenClaim := { program := "ytimlalndjfmnbaadoor", sum := "72dc6cac294a681d2e6378f19d6edd8230d2c2b8673ce26c8ed11615cea14c6b", func := "boarder/boarderlaw04.MsgReads", spec := "msgReads", inPlace := ["internal/reflectlite.TypeOf", "internal/reflectlite.ValueOf", "(internal/reflectlite.Value).Type", "(internal/reflectlite.Value).IsNil", "(internal/reflectlite.Value).Elem", "(internal/reflectlite.Value).Set"], unfollowed := true, recurses := true, named := ["boarder/msg.errForm", "errors.errorType"], apart := false, laid := [("errors.errorType", laid_errors_errorType), ("boarder/msg.errForm", laid_boarder_msg_errForm)], narrowed := true }
def MsgReadsUptoSaid : Prop := msgReadsUptoRow.holds Tryd.pinned (OpenSpec.upto msgReadsSpec)

/-- 'boarderlaw04.MsgBack', WHERE WHAT IT READS IS OF BULK AT MOST 1048576: true; the input reads as it did. -/
def msgBackUptoRow : OpenClaim := { program := "ytimlalndjfmnbaadoor", sum := "72dc6cac294a681d2e6378f19d6edd8230d2c2b8673ce26c8ed11615cea14c6b", func := "boarder/boarderlaw04.MsgBack", spec := "msgBack", inPlace := ["internal/reflectlite.TypeOf", "internal/reflectlite.ValueOf", "(internal/reflectlite.Value).Type", "(internal/reflectlite.Value).IsNil", "(internal/reflectlite.Value).Elem", "(internal/reflectlite.Value).Set"], unfollowed := true, recurses := true, named := ["boarder/msg.errForm", "errors.errorType"], apart := false, laid := [("errors.errorType", laid_errors_errorType), ("boarder/msg.errForm", laid_boarder_msg_errForm)], narrowed := true }
def MsgBackUptoSaid : Prop := msgBackUptoRow.holds Tryd.pinned (OpenSpec.upto msgBackSpec)

/-- 'boarderlaw04.MsgAny', WHERE WHAT IT READS IS OF BULK AT MOST 1048576: true; the input reads as it did. -/
def msgAnyUptoRow : OpenClaim := { program := "ytimlalndjfmnbaadoor", sum := "72dc6cac294a681d2e6378f19d6edd8230d2c2b8673ce26c8ed11615cea14c6b", func := "boarder/boarderlaw04.MsgAny", spec := "msgAny", inPlace := ["internal/reflectlite.TypeOf", "internal/reflectlite.ValueOf", "(internal/reflectlite.Value).Type", "(internal/reflectlite.Value).IsNil", "(internal/reflectlite.Value).Elem", "(internal/reflectlite.Value).Set"], unfollowed := true, recurses := true, named := ["boarder/msg.errForm", "errors.errorType"], apart := false, laid := [("errors.errorType", laid_errors_errorType), ("boarder/msg.errForm", laid_boarder_msg_errForm)], narrowed := true }
def MsgAnyUptoSaid : Prop := msgAnyUptoRow.holds Tryd.pinned (OpenSpec.upto msgAnySpec)

/-- 'boarderlaw04.MsgAreas', WHERE WHAT IT READS IS OF BULK AT MOST 1048576: true; the input reads as it did. -/
def msgAreasUptoRow : OpenClaim := { program := "ytimlalndjfmnbaadoor", sum := "72dc6cac294a681d2e6378f19d6edd8230d2c2b8673ce26c8ed11615cea14c6b", func := "boarder/boarderlaw04.MsgAreas", spec := "msgAreas", inPlace := ["internal/reflectlite.TypeOf", "internal/reflectlite.ValueOf", "(internal/reflectlite.Value).Type", "(internal/reflectlite.Value).IsNil", "(internal/reflectlite.Value).Elem", "(internal/reflectlite.Value).Set"], unfollowed := true, recurses := true, named := ["boarder/msg.errForm", "errors.errorType"], apart := false, laid := [("errors.errorType", laid_errors_errorType), ("boarder/msg.errForm", laid_boarder_msg_errForm)], narrowed := true }
def MsgAreasUptoSaid : Prop := msgAreasUptoRow.holds Tryd.pinned (OpenSpec.upto msgAreasSpec)

/-- 'boarderlaw18.ReplyWrites', WHERE WHAT IT READS IS OF BULK AT MOST 1048576: true; the input reads as it did. -/
def replyWritesUptoRow : OpenClaim := { program := "ytimlalndjfmnbaadoor", sum := "72dc6cac294a681d2e6378f19d6edd8230d2c2b8673ce26c8ed11615cea14c6b", func := "boarder/boarderlaw18.ReplyWrites", spec := "replyWrites", inPlace := ["internal/reflectlite.TypeOf", "internal/reflectlite.ValueOf", "(internal/reflectlite.Value).Type", "(internal/reflectlite.Value).IsNil", "(internal/reflectlite.Value).Elem", "(internal/reflectlite.Value).Set"], unfollowed := true, recurses := true, named := ["boarder/msg.errForm", "errors.errorType"], apart := false, laid := [("errors.errorType", laid_errors_errorType), ("boarder/msg.errForm", laid_boarder_msg_errForm)], narrowed := true }
def ReplyWritesUptoSaid : Prop := replyWritesUptoRow.holds Tryd.pinned (OpenSpec.upto replyWritesSpec)

end Rows
end Go.Proofs.YtimlalndjfmnbaaDoor
