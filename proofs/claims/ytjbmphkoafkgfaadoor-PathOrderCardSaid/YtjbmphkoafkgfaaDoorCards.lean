/-
  DERIVED. GIVEN WITH THE SEED: THE CARDS: each row of YtjbmphkoafkgfaaDoorRows.lean that lists a variable, with what it lists TIED to the program's text (the seventh form; the later family's looks); each row that meets fmt, with fmt's text TOLD by the authors' own Lean function (tested against real Go, not proved from fmt's source: count such statements apart). THE CARD IS WHAT COUNTS. Prove the row's statement (the work); the ties are given (YtjbmphkoafkgfaaDoorTie.lean); close each card by the builder's one call (the guide's Derived/Test/ToyasCard.lean, 'card_holds'). Laid BY PROGRAM, IN A SANDBOX (cutbox-door.mjs). By AI agents, Wed Nov 11 2026. No macro, syntax, notation, axiom, sorry.
-/
import Derived.Test.YtjbmphkoafkgfaaDoorRows
import GoSem.ClaimSeven
namespace Go.Proofs.YtjbmphkoafkgfaaDoor
namespace Rows

/-- THE TIED CARD OF 'althinglaw02.PathChecks'. -/
def pathChecksCard : Claim7 := { stood := { row := pathChecksRow, standIns := [], harness := (true, "c3e029797602813dfa10913b9a4ee8d0f50f513594a506faeb1771dbd0808bc2"), looks := false }, kinds := [], alts := [], laidByText := true, laidKinds := [.data, .pinned], laidTests := true, laidLooks := .later }
def PathChecksCardSaid : Prop := Claim7.holds Tryd.pinned (.plain (OpenSpec.ofChange pathChecksSpec)) pathChecksCard

/-- THE TIED CARD OF 'althinglaw02.PathJoins'. -/
def pathJoinsCard : Claim7 := { stood := { row := pathJoinsRow, standIns := [], harness := (true, "c3e029797602813dfa10913b9a4ee8d0f50f513594a506faeb1771dbd0808bc2"), looks := false }, kinds := [], alts := [], laidByText := true, laidKinds := [.data, .pinned], laidTests := true, laidLooks := .later }
def PathJoinsCardSaid : Prop := Claim7.holds Tryd.pinned (.plain (OpenSpec.ofChange pathJoinsSpec)) pathJoinsCard

/-- THE TIED CARD OF 'althinglaw02.PathBack'. -/
def pathBackCard : Claim7 := { stood := { row := pathBackRow, standIns := [], harness := (true, "c3e029797602813dfa10913b9a4ee8d0f50f513594a506faeb1771dbd0808bc2"), looks := false }, kinds := [], alts := [], laidByText := true, laidKinds := [.data, .pinned], laidTests := true, laidLooks := .later }
def PathBackCardSaid : Prop := Claim7.holds Tryd.pinned (.plain (OpenSpec.ofChange pathBackSpec)) pathBackCard

/-- THE TIED CARD OF 'althinglaw02.PathSuffixes'. -/
def pathSuffixesCard : Claim7 := { stood := { row := pathSuffixesRow, standIns := [], harness := (true, "c3e029797602813dfa10913b9a4ee8d0f50f513594a506faeb1771dbd0808bc2"), looks := false }, kinds := [], alts := [], laidByText := true, laidKinds := [.data, .data, .data, .data, .pinned], laidTests := true, laidLooks := .later }
def PathSuffixesCardSaid : Prop := Claim7.holds Tryd.pinned (.plain (OpenSpec.ofChange pathSuffixesSpec)) pathSuffixesCard

/-- THE TIED CARD OF 'althinglaw02.PathOrder'. -/
def pathOrderCard : Claim7 := { stood := { row := pathOrderRow, standIns := [], harness := (true, "c3e029797602813dfa10913b9a4ee8d0f50f513594a506faeb1771dbd0808bc2"), looks := false }, kinds := [], alts := [], laidByText := true, laidKinds := [.data, .data, .data, .data, .pinned], laidTests := true, laidLooks := .later }
def PathOrderCardSaid : Prop := Claim7.holds Tryd.pinned (.plain (OpenSpec.ofChange pathOrderSpec)) pathOrderCard

/-- THE SECOND FORM's CARD OF 'althinglaw02.PathChecks'. -/
def pathChecksUptoCard : Claim7 := { stood := { row := pathChecksUptoRow, standIns := [], harness := (true, "c3e029797602813dfa10913b9a4ee8d0f50f513594a506faeb1771dbd0808bc2"), looks := false }, kinds := [], alts := [], laidByText := true, laidKinds := [.data, .pinned], laidTests := true, laidLooks := .later }
def PathChecksUptoCardSaid : Prop := Claim7.holds Tryd.pinned (.plain (OpenSpec.upto pathChecksSpec)) pathChecksUptoCard

/-- THE SECOND FORM's CARD OF 'althinglaw02.PathJoins'. -/
def pathJoinsUptoCard : Claim7 := { stood := { row := pathJoinsUptoRow, standIns := [], harness := (true, "c3e029797602813dfa10913b9a4ee8d0f50f513594a506faeb1771dbd0808bc2"), looks := false }, kinds := [], alts := [], laidByText := true, laidKinds := [.data, .pinned], laidTests := true, laidLooks := .later }
def PathJoinsUptoCardSaid : Prop := Claim7.holds Tryd.pinned (.plain (OpenSpec.upto pathJoinsSpec)) pathJoinsUptoCard

/-- THE SECOND FORM's CARD OF 'althinglaw02.PathBack'. -/
def pathBackUptoCard : Claim7 := { stood := { row := pathBackUptoRow, standIns := [], harness := (true, "c3e029797602813dfa10913b9a4ee8d0f50f513594a506faeb1771dbd0808bc2"), looks := false }, kinds := [], alts := [], laidByText := true, laidKinds := [.data, .pinned], laidTests := true, laidLooks := .later }
def PathBackUptoCardSaid : Prop := Claim7.holds Tryd.pinned (.plain (OpenSpec.upto pathBackSpec)) pathBackUptoCard

/-- THE SECOND FORM's CARD OF 'althinglaw02.PathSuffixes'. -/
def pathSuffixesUptoCard : Claim7 := { stood := { row := pathSuffixesUptoRow, standIns := [], harness := (true, "c3e029797602813dfa10913b9a4ee8d0f50f513594a506faeb1771dbd0808bc2"), looks := false }, kinds := [], alts := [], laidByText := true, laidKinds := [.data, .data, .data, .data, .pinned], laidTests := true, laidLooks := .later }
def PathSuffixesUptoCardSaid : Prop := Claim7.holds Tryd.pinned (.plain (OpenSpec.upto pathSuffixesSpec)) pathSuffixesUptoCard

/-- THE SECOND FORM's CARD OF 'althinglaw02.PathOrder'. -/
def pathOrderUptoCard : Claim7 := { stood := { row := pathOrderUptoRow, standIns := [], harness := (true, "c3e029797602813dfa10913b9a4ee8d0f50f513594a506faeb1771dbd0808bc2"), looks := false }, kinds := [], alts := [], laidByText := true, laidKinds := [.data, .data, .data, .data, .pinned], laidTests := true, laidLooks := .later }
def PathOrderUptoCardSaid : Prop := Claim7.holds Tryd.pinned (.plain (OpenSpec.upto pathOrderSpec)) pathOrderUptoCard
end Rows
end Go.Proofs.YtjbmphkoafkgfaaDoor
