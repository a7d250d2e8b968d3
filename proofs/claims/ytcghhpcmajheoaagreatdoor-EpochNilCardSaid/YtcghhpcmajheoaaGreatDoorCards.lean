/-
  DERIVED. GIVEN WITH THE SEED: THE CARDS: each row of YtcghhpcmajheoaaGreatDoorRows.lean that lists a variable, with what it lists TIED to the program's text (the seventh form; the later family's looks); each row that meets fmt, with fmt's text TOLD by the authors' own Lean function (tested against real Go, not proved from fmt's source: count such statements apart). THE CARD IS WHAT COUNTS. Prove the row's statement (the work); the ties are given (YtcghhpcmajheoaaGreatDoorTie.lean); close each card by the builder's one call (the guide's Derived/Test/ToyasCard.lean, 'card_holds'). Laid BY PROGRAM, IN A SANDBOX (cutbox-door.mjs). By AI agents, Wed Nov 11 2026. No macro, syntax, notation, axiom, sorry.
-/
import Derived.Test.YtcghhpcmajheoaaGreatDoorRows
import GoSem.ClaimSeven
namespace Go.Proofs.YtcghhpcmajheoaaGreatDoor
namespace Rows

/-- THE TIED CARD OF 'rolodexlaw19.EpochNil'. -/
def epochNilCard : Claim7 := { stood := { row := epochNilRow, standIns := [], harness := (true, "9c21df0947b62201496923941d76732521117b7ed6b7bed87fcb8606967f5424"), looks := false }, kinds := [], alts := [], laidByText := true, laidKinds := [.data, .data, .data, .data], laidTests := true, laidLooks := .later }
def EpochNilCardSaid : Prop := Claim7.holds Tryz.pinned (.plain (OpenSpec.ofChange epochNilSpec)) epochNilCard

/-- THE SECOND FORM's CARD OF 'rolodexlaw19.EpochNil'. -/
def epochNilUptoCard : Claim7 := { stood := { row := epochNilUptoRow, standIns := [], harness := (true, "9c21df0947b62201496923941d76732521117b7ed6b7bed87fcb8606967f5424"), looks := false }, kinds := [], alts := [], laidByText := true, laidKinds := [.data, .data, .data, .data], laidTests := true, laidLooks := .later }
def EpochNilUptoCardSaid : Prop := Claim7.holds Tryz.pinned (.plain (OpenSpec.upto epochNilSpec)) epochNilUptoCard
end Rows
end Go.Proofs.YtcghhpcmajheoaaGreatDoor
