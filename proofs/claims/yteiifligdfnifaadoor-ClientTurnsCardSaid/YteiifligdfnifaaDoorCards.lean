/-
  DERIVED. GIVEN WITH THE SEED: THE CARDS: each row of YteiifligdfnifaaDoorRows.lean that lists a variable, with what it lists TIED to the program's text (the seventh form; the later family's looks); each row that meets fmt, with fmt's text TOLD by the authors' own Lean function (tested against real Go, not proved from fmt's source: count such statements apart). THE CARD IS WHAT COUNTS. Prove the row's statement (the work); the ties are given (YteiifligdfnifaaDoorTie.lean); close each card by the builder's one call (the guide's Derived/Test/ToyasCard.lean, 'card_holds'). Laid BY PROGRAM, IN A SANDBOX (cutbox-door.mjs). By AI agents, Wed Nov 11 2026. No macro, syntax, notation, axiom, sorry.
-/
import Derived.Test.YteiifligdfnifaaDoorRows
import GoSem.ClaimSeven
namespace Go.Proofs.YteiifligdfnifaaDoor
namespace Rows

/-- THE TIED CARD OF 'althinglaw21.ClientTurns'. -/
def clientTurnsCard : Claim7 := { stood := { row := clientTurnsRow, standIns := [], harness := (true, "5b92b41194bbe4bf3a17c4486e805bc3a79a6acce6984fe367364002d341fc16"), looks := false }, kinds := [], alts := [], laidByText := true, laidKinds := [.sentinel], laidTests := true, laidLooks := .later }
def ClientTurnsCardSaid : Prop := Claim7.holds Tryd.pinned (.plain (OpenSpec.ofChange clientTurnsSpec)) clientTurnsCard

/-- THE TIED CARD OF 'althinglaw21.ClientOnce'. -/
def clientOnceCard : Claim7 := { stood := { row := clientOnceRow, standIns := [], harness := (true, "5b92b41194bbe4bf3a17c4486e805bc3a79a6acce6984fe367364002d341fc16"), looks := false }, kinds := [], alts := [], laidByText := true, laidKinds := [.sentinel], laidTests := true, laidLooks := .later }
def ClientOnceCardSaid : Prop := Claim7.holds Tryd.pinned (.plain (OpenSpec.ofChange clientOnceSpec)) clientOnceCard

/-- THE TIED CARD OF 'althinglaw21.ClientLease'. -/
def clientLeaseCard : Claim7 := { stood := { row := clientLeaseRow, standIns := [], harness := (true, "5b92b41194bbe4bf3a17c4486e805bc3a79a6acce6984fe367364002d341fc16"), looks := false }, kinds := [], alts := [], laidByText := true, laidKinds := [.sentinel], laidTests := true, laidLooks := .later }
def ClientLeaseCardSaid : Prop := Claim7.holds Tryd.pinned (.plain (OpenSpec.ofChange clientLeaseSpec)) clientLeaseCard

/-- THE TIED CARD OF 'althinglaw21.ClientEvents'. -/
def clientEventsCard : Claim7 := { stood := { row := clientEventsRow, standIns := [], harness := (true, "5b92b41194bbe4bf3a17c4486e805bc3a79a6acce6984fe367364002d341fc16"), looks := false }, kinds := [], alts := [], laidByText := true, laidKinds := [.sentinel], laidTests := true, laidLooks := .later }
def ClientEventsCardSaid : Prop := Claim7.holds Tryd.pinned (.plain (OpenSpec.ofChange clientEventsSpec)) clientEventsCard

/-- THE SECOND FORM's CARD OF 'althinglaw21.ClientTurns'. -/
def clientTurnsUptoCard : Claim7 := { stood := { row := clientTurnsUptoRow, standIns := [], harness := (true, "5b92b41194bbe4bf3a17c4486e805bc3a79a6acce6984fe367364002d341fc16"), looks := false }, kinds := [], alts := [], laidByText := true, laidKinds := [.sentinel], laidTests := true, laidLooks := .later }
def ClientTurnsUptoCardSaid : Prop := Claim7.holds Tryd.pinned (.plain (OpenSpec.upto clientTurnsSpec)) clientTurnsUptoCard

/-- THE SECOND FORM's CARD OF 'althinglaw21.ClientOnce'. -/
def clientOnceUptoCard : Claim7 := { stood := { row := clientOnceUptoRow, standIns := [], harness := (true, "5b92b41194bbe4bf3a17c4486e805bc3a79a6acce6984fe367364002d341fc16"), looks := false }, kinds := [], alts := [], laidByText := true, laidKinds := [.sentinel], laidTests := true, laidLooks := .later }
def ClientOnceUptoCardSaid : Prop := Claim7.holds Tryd.pinned (.plain (OpenSpec.upto clientOnceSpec)) clientOnceUptoCard

/-- THE SECOND FORM's CARD OF 'althinglaw21.ClientLease'. -/
def clientLeaseUptoCard : Claim7 := { stood := { row := clientLeaseUptoRow, standIns := [], harness := (true, "5b92b41194bbe4bf3a17c4486e805bc3a79a6acce6984fe367364002d341fc16"), looks := false }, kinds := [], alts := [], laidByText := true, laidKinds := [.sentinel], laidTests := true, laidLooks := .later }
def ClientLeaseUptoCardSaid : Prop := Claim7.holds Tryd.pinned (.plain (OpenSpec.upto clientLeaseSpec)) clientLeaseUptoCard

/-- THE SECOND FORM's CARD OF 'althinglaw21.ClientEvents'. -/
def clientEventsUptoCard : Claim7 := { stood := { row := clientEventsUptoRow, standIns := [], harness := (true, "5b92b41194bbe4bf3a17c4486e805bc3a79a6acce6984fe367364002d341fc16"), looks := false }, kinds := [], alts := [], laidByText := true, laidKinds := [.sentinel], laidTests := true, laidLooks := .later }
def ClientEventsUptoCardSaid : Prop := Claim7.holds Tryd.pinned (.plain (OpenSpec.upto clientEventsSpec)) clientEventsUptoCard
end Rows
end Go.Proofs.YteiifligdfnifaaDoor
