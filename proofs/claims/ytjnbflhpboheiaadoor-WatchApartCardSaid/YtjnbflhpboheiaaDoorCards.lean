/-
  DERIVED. GIVEN WITH THE SEED: THE CARDS: each row of YtjnbflhpboheiaaDoorRows.lean that lists a variable, with what it lists TIED to the program's text (the seventh form; the later family's looks); each row that meets fmt, with fmt's text TOLD by the authors' own Lean function (tested against real Go, not proved from fmt's source: count such statements apart). THE CARD IS WHAT COUNTS. Prove the row's statement (the work); the ties are given (YtjnbflhpboheiaaDoorTie.lean); close each card by the builder's one call (the guide's Derived/Test/ToyasCard.lean, 'card_holds'). Laid BY PROGRAM, IN A SANDBOX (cutbox-door.mjs). By AI agents, Wed Nov 11 2026. No macro, syntax, notation, axiom, sorry.
-/
import Derived.Test.YtjnbflhpboheiaaDoorRows
import GoSem.ClaimSeven
namespace Go.Proofs.YtjnbflhpboheiaaDoor
namespace Rows

/-- THE TIED CARD OF 'althinglaw16.WatchOnce'. -/
def watchOnceCard : Claim7 := { stood := { row := watchOnceRow, standIns := [], harness := (true, "da128ae9cdc1be252566f277ecc317d5c7311ce25a09ccce4991af2f00f55ff6"), looks := false }, kinds := [], alts := [], laidByText := true, laidKinds := [.data, .pinned], laidTests := true, laidLooks := .later }
def WatchOnceCardSaid : Prop := Claim7.holds Tryd.pinned (.plain (OpenSpec.ofChange watchOnceSpec)) watchOnceCard

/-- THE TIED CARD OF 'althinglaw16.WatchGaps'. -/
def watchGapsCard : Claim7 := { stood := { row := watchGapsRow, standIns := [], harness := (true, "da128ae9cdc1be252566f277ecc317d5c7311ce25a09ccce4991af2f00f55ff6"), looks := false }, kinds := [], alts := [], laidByText := true, laidKinds := [.data, .pinned], laidTests := true, laidLooks := .later }
def WatchGapsCardSaid : Prop := Claim7.holds Tryd.pinned (.plain (OpenSpec.ofChange watchGapsSpec)) watchGapsCard

/-- THE TIED CARD OF 'althinglaw16.WatchApart'. -/
def watchApartCard : Claim7 := { stood := { row := watchApartRow, standIns := [], harness := (true, "da128ae9cdc1be252566f277ecc317d5c7311ce25a09ccce4991af2f00f55ff6"), looks := false }, kinds := [], alts := [], laidByText := true, laidKinds := [.data, .pinned], laidTests := true, laidLooks := .later }
def WatchApartCardSaid : Prop := Claim7.holds Tryd.pinned (.plain (OpenSpec.ofChange watchApartSpec)) watchApartCard

/-- THE SECOND FORM's CARD OF 'althinglaw16.WatchOnce'. -/
def watchOnceUptoCard : Claim7 := { stood := { row := watchOnceUptoRow, standIns := [], harness := (true, "da128ae9cdc1be252566f277ecc317d5c7311ce25a09ccce4991af2f00f55ff6"), looks := false }, kinds := [], alts := [], laidByText := true, laidKinds := [.data, .pinned], laidTests := true, laidLooks := .later }
def WatchOnceUptoCardSaid : Prop := Claim7.holds Tryd.pinned (.plain (OpenSpec.upto watchOnceSpec)) watchOnceUptoCard

/-- THE SECOND FORM's CARD OF 'althinglaw16.WatchGaps'. -/
def watchGapsUptoCard : Claim7 := { stood := { row := watchGapsUptoRow, standIns := [], harness := (true, "da128ae9cdc1be252566f277ecc317d5c7311ce25a09ccce4991af2f00f55ff6"), looks := false }, kinds := [], alts := [], laidByText := true, laidKinds := [.data, .pinned], laidTests := true, laidLooks := .later }
def WatchGapsUptoCardSaid : Prop := Claim7.holds Tryd.pinned (.plain (OpenSpec.upto watchGapsSpec)) watchGapsUptoCard

/-- THE SECOND FORM's CARD OF 'althinglaw16.WatchApart'. -/
def watchApartUptoCard : Claim7 := { stood := { row := watchApartUptoRow, standIns := [], harness := (true, "da128ae9cdc1be252566f277ecc317d5c7311ce25a09ccce4991af2f00f55ff6"), looks := false }, kinds := [], alts := [], laidByText := true, laidKinds := [.data, .pinned], laidTests := true, laidLooks := .later }
def WatchApartUptoCardSaid : Prop := Claim7.holds Tryd.pinned (.plain (OpenSpec.upto watchApartSpec)) watchApartUptoCard
end Rows
end Go.Proofs.YtjnbflhpboheiaaDoor
