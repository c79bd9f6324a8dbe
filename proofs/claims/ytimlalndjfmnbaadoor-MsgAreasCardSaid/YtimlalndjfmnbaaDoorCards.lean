/-
  DERIVED. GIVEN WITH THE SEED: THE CARDS: each row of YtimlalndjfmnbaaDoorRows.lean that lists a variable, with what it lists TIED to the program's text (the seventh form; the later family's looks); each row that meets fmt, with fmt's text TOLD by the authors' own Lean function (tested against real Go, not proved from fmt's source: count such statements apart). THE CARD IS WHAT COUNTS. Prove the row's statement (the work); the ties are given (YtimlalndjfmnbaaDoorTie.lean); close each card by the builder's one call (the guide's Derived/Test/ToyasCard.lean, 'card_holds'). Laid BY PROGRAM, IN A SANDBOX (cutbox-door.mjs). By AI agents, Wed Nov 11 2026. No macro, syntax, notation, axiom, sorry.
-/
import Derived.Test.YtimlalndjfmnbaaDoorRows
import GoSem.ClaimSeven
namespace Go.Proofs.YtimlalndjfmnbaaDoor
namespace Rows

/-- THE TIED CARD OF 'boarderlaw04.MsgRights'. -/
def msgRightsCard : Claim7 := { stood := { row := msgRightsRow, standIns := [], harness := (true, "9e3bd31b91837decc6967c6c448d56fcac8e1d5e46d3c1f54b37f7e3712eef6c"), looks := true }, kinds := [], alts := [], laidByText := true, laidKinds := [.handle, .data], laidTests := true, laidLooks := .later }
def MsgRightsCardSaid : Prop := Claim7.holds Tryd.pinned (.plain (OpenSpec.ofChange msgRightsSpec)) msgRightsCard

/-- THE TIED CARD OF 'boarderlaw04.MsgWrites'. -/
def msgWritesCard : Claim7 := { stood := { row := msgWritesRow, standIns := [], harness := (true, "9e3bd31b91837decc6967c6c448d56fcac8e1d5e46d3c1f54b37f7e3712eef6c"), looks := true }, kinds := [], alts := [], laidByText := true, laidKinds := [.handle, .data], laidTests := true, laidLooks := .later }
def MsgWritesCardSaid : Prop := Claim7.holds Tryd.pinned (.plain (OpenSpec.ofChange msgWritesSpec)) msgWritesCard

/-- THE TIED CARD OF 'boarderlaw04.MsgReads'. -/
def msgReadsCard : Claim7 := { stood := { row := msgReadsRow, standIns := [], harness := (true, "9e3bd31b91837decc6967c6c448d56fcac8e1d5e46d3c1f54b37f7e3712eef6c"), looks := true }, kinds := [], alts := [], laidByText := true, laidKinds := [.handle, .data], laidTests := true, laidLooks := .later }
def MsgReadsCardSaid : Prop := Claim7.holds Tryd.pinned (.plain (OpenSpec.ofChange msgReadsSpec)) msgReadsCard

/-- THE TIED CARD OF 'boarderlaw04.MsgBack'. -/
def msgBackCard : Claim7 := { stood := { row := msgBackRow, standIns := [], harness := (true, "9e3bd31b91837decc6967c6c448d56fcac8e1d5e46d3c1f54b37f7e3712eef6c"), looks := true }, kinds := [], alts := [], laidByText := true, laidKinds := [.handle, .data], laidTests := true, laidLooks := .later }
def MsgBackCardSaid : Prop := Claim7.holds Tryd.pinned (.plain (OpenSpec.ofChange msgBackSpec)) msgBackCard

/-- THE TIED CARD OF 'boarderlaw04.MsgAny'. -/
def msgAnyCard : Claim7 := { stood := { row := msgAnyRow, standIns := [], harness := (true, "9e3bd31b91837decc6967c6c448d56fcac8e1d5e46d3c1f54b37f7e3712eef6c"), looks := true }, kinds := [], alts := [], laidByText := true, laidKinds := [.handle, .data], laidTests := true, laidLooks := .later }
def MsgAnyCardSaid : Prop := Claim7.holds Tryd.pinned (.plain (OpenSpec.ofChange msgAnySpec)) msgAnyCard

/-- THE TIED CARD OF 'boarderlaw04.MsgAreas'. -/
def msgAreasCard : Claim7 := { stood := { row := msgAreasRow, standIns := [], harness := (true, "9e3bd31b91837decc6967c6c448d56fcac8e1d5e46d3c1f54b37f7e3712eef6c"), looks := true }, kinds := [], alts := [], laidByText := true, laidKinds := [.handle, .data], laidTests := true, laidLooks := .later }
def MsgAreasCardSaid : Prop := Claim7.holds Tryd.pinned (.plain (OpenSpec.ofChange msgAreasSpec)) msgAreasCard

/-- THE TIED CARD OF 'boarderlaw18.ReplyWrites'. -/
def replyWritesCard : Claim7 := { stood := { row := replyWritesRow, standIns := [], harness := (true, "9e3bd31b91837decc6967c6c448d56fcac8e1d5e46d3c1f54b37f7e3712eef6c"), looks := true }, kinds := [], alts := [], laidByText := true, laidKinds := [.handle, .data], laidTests := true, laidLooks := .later }
def ReplyWritesCardSaid : Prop := Claim7.holds Tryd.pinned (.plain (OpenSpec.ofChange replyWritesSpec)) replyWritesCard

/-- THE SECOND FORM's CARD OF 'boarderlaw04.MsgRights'. -/
def msgRightsUptoCard : Claim7 := { stood := { row := msgRightsUptoRow, standIns := [], harness := (true, "9e3bd31b91837decc6967c6c448d56fcac8e1d5e46d3c1f54b37f7e3712eef6c"), looks := true }, kinds := [], alts := [], laidByText := true, laidKinds := [.handle, .data], laidTests := true, laidLooks := .later }
def MsgRightsUptoCardSaid : Prop := Claim7.holds Tryd.pinned (.plain (OpenSpec.upto msgRightsSpec)) msgRightsUptoCard

/-- THE SECOND FORM's CARD OF 'boarderlaw04.MsgWrites'. -/
def msgWritesUptoCard : Claim7 := { stood := { row := msgWritesUptoRow, standIns := [], harness := (true, "9e3bd31b91837decc6967c6c448d56fcac8e1d5e46d3c1f54b37f7e3712eef6c"), looks := true }, kinds := [], alts := [], laidByText := true, laidKinds := [.handle, .data], laidTests := true, laidLooks := .later }
def MsgWritesUptoCardSaid : Prop := Claim7.holds Tryd.pinned (.plain (OpenSpec.upto msgWritesSpec)) msgWritesUptoCard

/-- THE SECOND FORM's CARD OF 'boarderlaw04.MsgReads'. -/
def msgReadsUptoCard : Claim7 := { stood := { row := msgReadsUptoRow, standIns := [], harness := (true, "9e3bd31b91837decc6967c6c448d56fcac8e1d5e46d3c1f54b37f7e3712eef6c"), looks := true }, kinds := [], alts := [], laidByText := true, laidKinds := [.handle, .data], laidTests := true, laidLooks := .later }
def MsgReadsUptoCardSaid : Prop := Claim7.holds Tryd.pinned (.plain (OpenSpec.upto msgReadsSpec)) msgReadsUptoCard

/-- THE SECOND FORM's CARD OF 'boarderlaw04.MsgBack'. -/
def msgBackUptoCard : Claim7 := { stood := { row := msgBackUptoRow, standIns := [], harness := (true, "9e3bd31b91837decc6967c6c448d56fcac8e1d5e46d3c1f54b37f7e3712eef6c"), looks := true }, kinds := [], alts := [], laidByText := true, laidKinds := [.handle, .data], laidTests := true, laidLooks := .later }
def MsgBackUptoCardSaid : Prop := Claim7.holds Tryd.pinned (.plain (OpenSpec.upto msgBackSpec)) msgBackUptoCard

/-- THE SECOND FORM's CARD OF 'boarderlaw04.MsgAny'. -/
def msgAnyUptoCard : Claim7 := { stood := { row := msgAnyUptoRow, standIns := [], harness := (true, "9e3bd31b91837decc6967c6c448d56fcac8e1d5e46d3c1f54b37f7e3712eef6c"), looks := true }, kinds := [], alts := [], laidByText := true, laidKinds := [.handle, .data], laidTests := true, laidLooks := .later }
def MsgAnyUptoCardSaid : Prop := Claim7.holds Tryd.pinned (.plain (OpenSpec.upto msgAnySpec)) msgAnyUptoCard

/-- THE SECOND FORM's CARD OF 'boarderlaw04.MsgAreas'. -/
def msgAreasUptoCard : Claim7 := { stood := { row := msgAreasUptoRow, standIns := [], harness := (true, "9e3bd31b91837decc6967c6c448d56fcac8e1d5e46d3c1f54b37f7e3712eef6c"), looks := true }, kinds := [], alts := [], laidByText := true, laidKinds := [.handle, .data], laidTests := true, laidLooks := .later }
def MsgAreasUptoCardSaid : Prop := Claim7.holds Tryd.pinned (.plain (OpenSpec.upto msgAreasSpec)) msgAreasUptoCard

/-- THE SECOND FORM's CARD OF 'boarderlaw18.ReplyWrites'. -/
def replyWritesUptoCard : Claim7 := { stood := { row := replyWritesUptoRow, standIns := [], harness := (true, "9e3bd31b91837decc6967c6c448d56fcac8e1d5e46d3c1f54b37f7e3712eef6c"), looks := true }, kinds := [], alts := [], laidByText := true, laidKinds := [.handle, .data], laidTests := true, laidLooks := .later }
def ReplyWritesUptoCardSaid : Prop := Claim7.holds Tryd.pinned (.plain (OpenSpec.upto replyWritesSpec)) replyWritesUptoCard
end Rows
end Go.Proofs.YtimlalndjfmnbaaDoor
