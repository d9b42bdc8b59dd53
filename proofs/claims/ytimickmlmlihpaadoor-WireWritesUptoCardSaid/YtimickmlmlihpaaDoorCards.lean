/-
  DERIVED. GIVEN WITH THE SEED: THE CARDS: each row of YtimickmlmlihpaaDoorRows.lean that lists a variable, with what it lists TIED to the program's text (the seventh form; the later family's looks); each row that meets fmt, with fmt's text TOLD by the authors' own Lean function (tested against real Go, not proved from fmt's source: count such statements apart). THE CARD IS WHAT COUNTS. Prove the row's statement (the work); the ties are given (YtimickmlmlihpaaDoorTie.lean); close each card by the builder's one call (the guide's Derived/Test/ToyasCard.lean, 'card_holds'). Laid BY PROGRAM, IN A SANDBOX (cutbox-door.mjs). By AI agents, Wed Nov 11 2026. No macro, syntax, notation, axiom, sorry.
-/
import Derived.Test.YtimickmlmlihpaaDoorRows
import GoSem.ClaimSeven
namespace Go.Proofs.YtimickmlmlihpaaDoor
namespace Rows

/-- THE TIED CARD OF 'althinglaw01.WireWrites'. -/
def wireWritesCard : Claim7 := { stood := { row := wireWritesRow, standIns := [], harness := (true, "9fcba98cb1563c80ab8ea8021590d5fa3f021c165f6b68b83e595886008a026a"), looks := false }, kinds := [], alts := [], laidByText := true, laidKinds := [.sentinel], laidTests := true, laidLooks := .later }
def WireWritesCardSaid : Prop := Claim7.holds Tryd.pinned (.plain (OpenSpec.ofChange wireWritesSpec)) wireWritesCard

/-- THE TIED CARD OF 'althinglaw01.WireLists'. -/
def wireListsCard : Claim7 := { stood := { row := wireListsRow, standIns := [], harness := (true, "9fcba98cb1563c80ab8ea8021590d5fa3f021c165f6b68b83e595886008a026a"), looks := false }, kinds := [], alts := [], laidByText := true, laidKinds := [.sentinel], laidTests := true, laidLooks := .later }
def WireListsCardSaid : Prop := Claim7.holds Tryd.pinned (.plain (OpenSpec.ofChange wireListsSpec)) wireListsCard

/-- THE SECOND FORM's CARD OF 'althinglaw01.WireWrites'. -/
def wireWritesUptoCard : Claim7 := { stood := { row := wireWritesUptoRow, standIns := [], harness := (true, "9fcba98cb1563c80ab8ea8021590d5fa3f021c165f6b68b83e595886008a026a"), looks := false }, kinds := [], alts := [], laidByText := true, laidKinds := [.sentinel], laidTests := true, laidLooks := .later }
def WireWritesUptoCardSaid : Prop := Claim7.holds Tryd.pinned (.plain (OpenSpec.upto wireWritesSpec)) wireWritesUptoCard

/-- THE SECOND FORM's CARD OF 'althinglaw01.WireLists'. -/
def wireListsUptoCard : Claim7 := { stood := { row := wireListsUptoRow, standIns := [], harness := (true, "9fcba98cb1563c80ab8ea8021590d5fa3f021c165f6b68b83e595886008a026a"), looks := false }, kinds := [], alts := [], laidByText := true, laidKinds := [.sentinel], laidTests := true, laidLooks := .later }
def WireListsUptoCardSaid : Prop := Claim7.holds Tryd.pinned (.plain (OpenSpec.upto wireListsSpec)) wireListsUptoCard
end Rows
end Go.Proofs.YtimickmlmlihpaaDoor
