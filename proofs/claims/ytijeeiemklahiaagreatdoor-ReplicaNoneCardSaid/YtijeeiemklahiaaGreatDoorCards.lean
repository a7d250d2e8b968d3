/-
  DERIVED. GIVEN WITH THE SEED: THE CARDS: each row of YtijeeiemklahiaaGreatDoorRows.lean that lists a variable, with what it lists TIED to the program's text (the seventh form; the later family's looks); each row that meets fmt, with fmt's text TOLD by the authors' own Lean function (tested against real Go, not proved from fmt's source: count such statements apart). THE CARD IS WHAT COUNTS. Prove the row's statement (the work); the ties are given (YtijeeiemklahiaaGreatDoorTie.lean); close each card by the builder's one call (the guide's Derived/Test/ToyasCard.lean, 'card_holds'). Laid BY PROGRAM, IN A SANDBOX (cutbox-door.mjs). By AI agents, Wed Nov 11 2026. No macro, syntax, notation, axiom, sorry.
-/
import Derived.Test.YtijeeiemklahiaaGreatDoorRows
import GoSem.ClaimSeven
namespace Go.Proofs.YtijeeiemklahiaaGreatDoor
namespace Rows

/-- THE TIED CARD OF 'rolodexlaw21.ReplicaNone'. -/
def replicaNoneCard : Claim7 := { stood := { row := replicaNoneRow, standIns := [], harness := (true, "d4d1b1bb2118ab6f735738157dd753cae39a8a1bc817b13a4470ef321fe6e7d7"), looks := false }, kinds := [], alts := [], laidByText := true, laidKinds := [.data, .data, .data, .data, .data], laidTests := true, laidLooks := .later }
def ReplicaNoneCardSaid : Prop := Claim7.holds Tryz.pinned (.plain (OpenSpec.ofChange replicaNoneSpec)) replicaNoneCard

/-- THE TIED CARD OF 'rolodexlaw20.PrimaryNone'. -/
def primaryNoneCard : Claim7 := { stood := { row := primaryNoneRow, standIns := [], harness := (true, "d4d1b1bb2118ab6f735738157dd753cae39a8a1bc817b13a4470ef321fe6e7d7"), looks := false }, kinds := [], alts := [], laidByText := true, laidKinds := [.data, .data, .data, .data, .data], laidTests := true, laidLooks := .later }
def PrimaryNoneCardSaid : Prop := Claim7.holds Tryz.pinned (.plain (OpenSpec.ofChange primaryNoneSpec)) primaryNoneCard

/-- THE TIED CARD OF 'rolodexlaw20.PrimarySpent'. -/
def primarySpentCard : Claim7 := { stood := { row := primarySpentRow, standIns := [], harness := (true, "d4d1b1bb2118ab6f735738157dd753cae39a8a1bc817b13a4470ef321fe6e7d7"), looks := false }, kinds := [], alts := [], laidByText := true, laidKinds := [.data, .data, .data, .data, .data], laidTests := true, laidLooks := .later }
def PrimarySpentCardSaid : Prop := Claim7.holds Tryz.pinned (.plain (OpenSpec.ofChange primarySpentSpec)) primarySpentCard

/-- THE TIED CARD OF 'rolodexlaw25.ExtractNone'. -/
def extractNoneCard : Claim7 := { stood := { row := extractNoneRow, standIns := [], harness := (true, "d4d1b1bb2118ab6f735738157dd753cae39a8a1bc817b13a4470ef321fe6e7d7"), looks := false }, kinds := [], alts := [], laidByText := true, laidKinds := [.data, .data, .data, .data, .data], laidTests := true, laidLooks := .later }
def ExtractNoneCardSaid : Prop := Claim7.holds Tryz.pinned (.plain (OpenSpec.ofChange extractNoneSpec)) extractNoneCard

/-- THE SECOND FORM's CARD OF 'rolodexlaw21.ReplicaNone'. -/
def replicaNoneUptoCard : Claim7 := { stood := { row := replicaNoneUptoRow, standIns := [], harness := (true, "d4d1b1bb2118ab6f735738157dd753cae39a8a1bc817b13a4470ef321fe6e7d7"), looks := false }, kinds := [], alts := [], laidByText := true, laidKinds := [.data, .data, .data, .data, .data], laidTests := true, laidLooks := .later }
def ReplicaNoneUptoCardSaid : Prop := Claim7.holds Tryz.pinned (.plain (OpenSpec.upto replicaNoneSpec)) replicaNoneUptoCard

/-- THE SECOND FORM's CARD OF 'rolodexlaw20.PrimaryNone'. -/
def primaryNoneUptoCard : Claim7 := { stood := { row := primaryNoneUptoRow, standIns := [], harness := (true, "d4d1b1bb2118ab6f735738157dd753cae39a8a1bc817b13a4470ef321fe6e7d7"), looks := false }, kinds := [], alts := [], laidByText := true, laidKinds := [.data, .data, .data, .data, .data], laidTests := true, laidLooks := .later }
def PrimaryNoneUptoCardSaid : Prop := Claim7.holds Tryz.pinned (.plain (OpenSpec.upto primaryNoneSpec)) primaryNoneUptoCard

/-- THE SECOND FORM's CARD OF 'rolodexlaw20.PrimarySpent'. -/
def primarySpentUptoCard : Claim7 := { stood := { row := primarySpentUptoRow, standIns := [], harness := (true, "d4d1b1bb2118ab6f735738157dd753cae39a8a1bc817b13a4470ef321fe6e7d7"), looks := false }, kinds := [], alts := [], laidByText := true, laidKinds := [.data, .data, .data, .data, .data], laidTests := true, laidLooks := .later }
def PrimarySpentUptoCardSaid : Prop := Claim7.holds Tryz.pinned (.plain (OpenSpec.upto primarySpentSpec)) primarySpentUptoCard

/-- THE SECOND FORM's CARD OF 'rolodexlaw25.ExtractNone'. -/
def extractNoneUptoCard : Claim7 := { stood := { row := extractNoneUptoRow, standIns := [], harness := (true, "d4d1b1bb2118ab6f735738157dd753cae39a8a1bc817b13a4470ef321fe6e7d7"), looks := false }, kinds := [], alts := [], laidByText := true, laidKinds := [.data, .data, .data, .data, .data], laidTests := true, laidLooks := .later }
def ExtractNoneUptoCardSaid : Prop := Claim7.holds Tryz.pinned (.plain (OpenSpec.upto extractNoneSpec)) extractNoneUptoCard
end Rows
end Go.Proofs.YtijeeiemklahiaaGreatDoor
