/-
  DERIVED. GIVEN WITH THE SEED: THE CARDS: each row of YtoilfihojgeonaaGreatDoorRows.lean that lists a variable, with what it lists TIED to the program's text (the seventh form; the later family's looks); each row that meets fmt, with fmt's text TOLD by the authors' own Lean function (tested against real Go, not proved from fmt's source: count such statements apart). THE CARD IS WHAT COUNTS. Prove the row's statement (the work); the ties are given (YtoilfihojgeonaaGreatDoorTie.lean); close each card by the builder's one call (the guide's Derived/Test/ToyasCard.lean, 'card_holds'). Laid BY PROGRAM, IN A SANDBOX (cutbox-door.mjs). By AI agents, Wed Nov 11 2026. No macro, syntax, notation, axiom, sorry.
-/
import Derived.Test.YtoilfihojgeonaaGreatDoorRows
import GoSem.ClaimSeven
namespace Go.Proofs.YtoilfihojgeonaaGreatDoor
namespace Rows

/-- THE TIED CARD OF 'boarderlaw21.ServerPlays'. -/
def serverPlaysCard : Claim7 := { stood := { row := serverPlaysRow, standIns := [], harness := (true, "0a8a67cfa6d0af14f5760f6e1313ca667ba70e888b96495b760ecdfcc214a679"), looks := true }, kinds := [], alts := [], laidByText := true, laidKinds := [.handle, .data], laidTests := true, laidLooks := .later }
def ServerPlaysCardSaid : Prop := Claim7.holds Tryz.pinned (.plain (OpenSpec.ofChange serverPlaysSpec)) serverPlaysCard

/-- THE TIED CARD OF 'boarderlaw21.ServerFirst'. -/
def serverFirstCard : Claim7 := { stood := { row := serverFirstRow, standIns := [], harness := (true, "0a8a67cfa6d0af14f5760f6e1313ca667ba70e888b96495b760ecdfcc214a679"), looks := true }, kinds := [], alts := [], laidByText := true, laidKinds := [.handle, .data], laidTests := true, laidLooks := .later }
def ServerFirstCardSaid : Prop := Claim7.holds Tryz.pinned (.plain (OpenSpec.ofChange serverFirstSpec)) serverFirstCard

/-- THE TIED CARD OF 'boarderlaw21.ServerFound'. -/
def serverFoundCard : Claim7 := { stood := { row := serverFoundRow, standIns := [], harness := (true, "0a8a67cfa6d0af14f5760f6e1313ca667ba70e888b96495b760ecdfcc214a679"), looks := true }, kinds := [], alts := [], laidByText := true, laidKinds := [.handle, .data], laidTests := true, laidLooks := .later }
def ServerFoundCardSaid : Prop := Claim7.holds Tryz.pinned (.plain (OpenSpec.ofChange serverFoundSpec)) serverFoundCard

/-- THE TIED CARD OF 'boarderlaw21.ServerCuts'. -/
def serverCutsCard : Claim7 := { stood := { row := serverCutsRow, standIns := [], harness := (true, "0a8a67cfa6d0af14f5760f6e1313ca667ba70e888b96495b760ecdfcc214a679"), looks := true }, kinds := [], alts := [], laidByText := true, laidKinds := [.handle, .data], laidTests := true, laidLooks := .later }
def ServerCutsCardSaid : Prop := Claim7.holds Tryz.pinned (.plain (OpenSpec.ofChange serverCutsSpec)) serverCutsCard

/-- THE TIED CARD OF 'boarderlaw21.ServerSilent'. -/
def serverSilentCard : Claim7 := { stood := { row := serverSilentRow, standIns := [], harness := (true, "0a8a67cfa6d0af14f5760f6e1313ca667ba70e888b96495b760ecdfcc214a679"), looks := true }, kinds := [], alts := [], laidByText := true, laidKinds := [.handle, .data], laidTests := true, laidLooks := .later }
def ServerSilentCardSaid : Prop := Claim7.holds Tryz.pinned (.plain (OpenSpec.ofChange serverSilentSpec)) serverSilentCard

/-- THE TIED CARD OF 'boarderlaw21.ServerCleans'. -/
def serverCleansCard : Claim7 := { stood := { row := serverCleansRow, standIns := [], harness := (true, "0a8a67cfa6d0af14f5760f6e1313ca667ba70e888b96495b760ecdfcc214a679"), looks := true }, kinds := [], alts := [], laidByText := true, laidKinds := [.handle, .data], laidTests := true, laidLooks := .later }
def ServerCleansCardSaid : Prop := Claim7.holds Tryz.pinned (.plain (OpenSpec.ofChange serverCleansSpec)) serverCleansCard

/-- THE TIED CARD OF 'boarderlaw22.WorldNotes'. -/
def worldNotesCard : Claim7 := { stood := { row := worldNotesRow, standIns := [], harness := (true, "0a8a67cfa6d0af14f5760f6e1313ca667ba70e888b96495b760ecdfcc214a679"), looks := true }, kinds := [], alts := [], laidByText := true, laidKinds := [.handle, .data], laidTests := true, laidLooks := .later }
def WorldNotesCardSaid : Prop := Claim7.holds Tryz.pinned (.plain (OpenSpec.ofChange worldNotesSpec)) worldNotesCard

/-- THE TIED CARD OF 'boarderlaw22.WorldPlays'. -/
def worldPlaysCard : Claim7 := { stood := { row := worldPlaysRow, standIns := [], harness := (true, "0a8a67cfa6d0af14f5760f6e1313ca667ba70e888b96495b760ecdfcc214a679"), looks := true }, kinds := [], alts := [], laidByText := true, laidKinds := [.handle, .data], laidTests := true, laidLooks := .later }
def WorldPlaysCardSaid : Prop := Claim7.holds Tryz.pinned (.plain (OpenSpec.ofChange worldPlaysSpec)) worldPlaysCard

/-- THE TIED CARD OF 'boarderlaw22.WorldNil'. -/
def worldNilCard : Claim7 := { stood := { row := worldNilRow, standIns := [], harness := (true, "0a8a67cfa6d0af14f5760f6e1313ca667ba70e888b96495b760ecdfcc214a679"), looks := true }, kinds := [], alts := [], laidByText := true, laidKinds := [.handle, .data], laidTests := true, laidLooks := .later }
def WorldNilCardSaid : Prop := Claim7.holds Tryz.pinned (.plain (OpenSpec.ofChange worldNilSpec)) worldNilCard

/-- THE TIED CARD OF 'boardertop.TopOne'. -/
def topOneCard : Claim7 := { stood := { row := topOneRow, standIns := [], harness := (true, "0a8a67cfa6d0af14f5760f6e1313ca667ba70e888b96495b760ecdfcc214a679"), looks := true }, kinds := [], alts := [], laidByText := true, laidKinds := [.handle, .data], laidTests := true, laidLooks := .later }
def TopOneCardSaid : Prop := Claim7.holds Tryz.pinned (.plain (OpenSpec.ofChange topOneSpec)) topOneCard

/-- THE TIED CARD OF 'boardertop.TopPasses'. -/
def topPassesCard : Claim7 := { stood := { row := topPassesRow, standIns := [], harness := (true, "0a8a67cfa6d0af14f5760f6e1313ca667ba70e888b96495b760ecdfcc214a679"), looks := true }, kinds := [], alts := [], laidByText := true, laidKinds := [.handle, .data], laidTests := true, laidLooks := .later }
def TopPassesCardSaid : Prop := Claim7.holds Tryz.pinned (.plain (OpenSpec.ofChange topPassesSpec)) topPassesCard

/-- THE TIED CARD OF 'boardertop.TopOnce'. -/
def topOnceCard : Claim7 := { stood := { row := topOnceRow, standIns := [], harness := (true, "0a8a67cfa6d0af14f5760f6e1313ca667ba70e888b96495b760ecdfcc214a679"), looks := true }, kinds := [], alts := [], laidByText := true, laidKinds := [.handle, .data], laidTests := true, laidLooks := .later }
def TopOnceCardSaid : Prop := Claim7.holds Tryz.pinned (.plain (OpenSpec.ofChange topOnceSpec)) topOnceCard

/-- THE SECOND FORM's CARD OF 'boarderlaw21.ServerPlays'. -/
def serverPlaysUptoCard : Claim7 := { stood := { row := serverPlaysUptoRow, standIns := [], harness := (true, "0a8a67cfa6d0af14f5760f6e1313ca667ba70e888b96495b760ecdfcc214a679"), looks := true }, kinds := [], alts := [], laidByText := true, laidKinds := [.handle, .data], laidTests := true, laidLooks := .later }
def ServerPlaysUptoCardSaid : Prop := Claim7.holds Tryz.pinned (.plain (OpenSpec.upto serverPlaysSpec)) serverPlaysUptoCard

/-- THE SECOND FORM's CARD OF 'boarderlaw21.ServerFirst'. -/
def serverFirstUptoCard : Claim7 := { stood := { row := serverFirstUptoRow, standIns := [], harness := (true, "0a8a67cfa6d0af14f5760f6e1313ca667ba70e888b96495b760ecdfcc214a679"), looks := true }, kinds := [], alts := [], laidByText := true, laidKinds := [.handle, .data], laidTests := true, laidLooks := .later }
def ServerFirstUptoCardSaid : Prop := Claim7.holds Tryz.pinned (.plain (OpenSpec.upto serverFirstSpec)) serverFirstUptoCard

/-- THE SECOND FORM's CARD OF 'boarderlaw21.ServerFound'. -/
def serverFoundUptoCard : Claim7 := { stood := { row := serverFoundUptoRow, standIns := [], harness := (true, "0a8a67cfa6d0af14f5760f6e1313ca667ba70e888b96495b760ecdfcc214a679"), looks := true }, kinds := [], alts := [], laidByText := true, laidKinds := [.handle, .data], laidTests := true, laidLooks := .later }
def ServerFoundUptoCardSaid : Prop := Claim7.holds Tryz.pinned (.plain (OpenSpec.upto serverFoundSpec)) serverFoundUptoCard

/-- THE SECOND FORM's CARD OF 'boarderlaw21.ServerCuts'. -/
def serverCutsUptoCard : Claim7 := { stood := { row := serverCutsUptoRow, standIns := [], harness := (true, "0a8a67cfa6d0af14f5760f6e1313ca667ba70e888b96495b760ecdfcc214a679"), looks := true }, kinds := [], alts := [], laidByText := true, laidKinds := [.handle, .data], laidTests := true, laidLooks := .later }
def ServerCutsUptoCardSaid : Prop := Claim7.holds Tryz.pinned (.plain (OpenSpec.upto serverCutsSpec)) serverCutsUptoCard

/-- THE SECOND FORM's CARD OF 'boarderlaw21.ServerSilent'. -/
def serverSilentUptoCard : Claim7 := { stood := { row := serverSilentUptoRow, standIns := [], harness := (true, "0a8a67cfa6d0af14f5760f6e1313ca667ba70e888b96495b760ecdfcc214a679"), looks := true }, kinds := [], alts := [], laidByText := true, laidKinds := [.handle, .data], laidTests := true, laidLooks := .later }
def ServerSilentUptoCardSaid : Prop := Claim7.holds Tryz.pinned (.plain (OpenSpec.upto serverSilentSpec)) serverSilentUptoCard

/-- THE SECOND FORM's CARD OF 'boarderlaw21.ServerCleans'. -/
def serverCleansUptoCard : Claim7 := { stood := { row := serverCleansUptoRow, standIns := [], harness := (true, "0a8a67cfa6d0af14f5760f6e1313ca667ba70e888b96495b760ecdfcc214a679"), looks := true }, kinds := [], alts := [], laidByText := true, laidKinds := [.handle, .data], laidTests := true, laidLooks := .later }
def ServerCleansUptoCardSaid : Prop := Claim7.holds Tryz.pinned (.plain (OpenSpec.upto serverCleansSpec)) serverCleansUptoCard

/-- THE SECOND FORM's CARD OF 'boarderlaw22.WorldNotes'. -/
def worldNotesUptoCard : Claim7 := { stood := { row := worldNotesUptoRow, standIns := [], harness := (true, "0a8a67cfa6d0af14f5760f6e1313ca667ba70e888b96495b760ecdfcc214a679"), looks := true }, kinds := [], alts := [], laidByText := true, laidKinds := [.handle, .data], laidTests := true, laidLooks := .later }
def WorldNotesUptoCardSaid : Prop := Claim7.holds Tryz.pinned (.plain (OpenSpec.upto worldNotesSpec)) worldNotesUptoCard

/-- THE SECOND FORM's CARD OF 'boarderlaw22.WorldPlays'. -/
def worldPlaysUptoCard : Claim7 := { stood := { row := worldPlaysUptoRow, standIns := [], harness := (true, "0a8a67cfa6d0af14f5760f6e1313ca667ba70e888b96495b760ecdfcc214a679"), looks := true }, kinds := [], alts := [], laidByText := true, laidKinds := [.handle, .data], laidTests := true, laidLooks := .later }
def WorldPlaysUptoCardSaid : Prop := Claim7.holds Tryz.pinned (.plain (OpenSpec.upto worldPlaysSpec)) worldPlaysUptoCard

/-- THE SECOND FORM's CARD OF 'boarderlaw22.WorldNil'. -/
def worldNilUptoCard : Claim7 := { stood := { row := worldNilUptoRow, standIns := [], harness := (true, "0a8a67cfa6d0af14f5760f6e1313ca667ba70e888b96495b760ecdfcc214a679"), looks := true }, kinds := [], alts := [], laidByText := true, laidKinds := [.handle, .data], laidTests := true, laidLooks := .later }
def WorldNilUptoCardSaid : Prop := Claim7.holds Tryz.pinned (.plain (OpenSpec.upto worldNilSpec)) worldNilUptoCard

/-- THE SECOND FORM's CARD OF 'boardertop.TopOne'. -/
def topOneUptoCard : Claim7 := { stood := { row := topOneUptoRow, standIns := [], harness := (true, "0a8a67cfa6d0af14f5760f6e1313ca667ba70e888b96495b760ecdfcc214a679"), looks := true }, kinds := [], alts := [], laidByText := true, laidKinds := [.handle, .data], laidTests := true, laidLooks := .later }
def TopOneUptoCardSaid : Prop := Claim7.holds Tryz.pinned (.plain (OpenSpec.upto topOneSpec)) topOneUptoCard

/-- THE SECOND FORM's CARD OF 'boardertop.TopPasses'. -/
def topPassesUptoCard : Claim7 := { stood := { row := topPassesUptoRow, standIns := [], harness := (true, "0a8a67cfa6d0af14f5760f6e1313ca667ba70e888b96495b760ecdfcc214a679"), looks := true }, kinds := [], alts := [], laidByText := true, laidKinds := [.handle, .data], laidTests := true, laidLooks := .later }
def TopPassesUptoCardSaid : Prop := Claim7.holds Tryz.pinned (.plain (OpenSpec.upto topPassesSpec)) topPassesUptoCard

/-- THE SECOND FORM's CARD OF 'boardertop.TopOnce'. -/
def topOnceUptoCard : Claim7 := { stood := { row := topOnceUptoRow, standIns := [], harness := (true, "0a8a67cfa6d0af14f5760f6e1313ca667ba70e888b96495b760ecdfcc214a679"), looks := true }, kinds := [], alts := [], laidByText := true, laidKinds := [.handle, .data], laidTests := true, laidLooks := .later }
def TopOnceUptoCardSaid : Prop := Claim7.holds Tryz.pinned (.plain (OpenSpec.upto topOnceSpec)) topOnceUptoCard
end Rows
end Go.Proofs.YtoilfihojgeonaaGreatDoor
