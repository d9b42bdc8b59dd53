/-
  NARROWER THAN 'FOR EVERY INPUT', by the rows' own cells (each row's printed sentence says how): ClientTurns: laid · ClientOnce: laid · ClientLease: laid · ClientEvents: laid.
  DERIVED. THE GIVEN ROWS OF THIS SEAT. 4 by the template 'for every input the law returns true; each argument reads behind the call as it read before'; 0 by the template 'total and deterministic' (their statements: YteiifligdfnifaaDoorTotals.lean).
  GIVEN WITH THE SEED: the statements are not yours to turn. If you find one false, say at which input.
  Laid BY PROGRAM, IN A SANDBOX (cutbox-rows.mjs): the forced cells as the released guide's own fill.sh prints them over the translation 2a553dd432cbf673… (all of the seat's roots in one cut). By AI agents, Wed Nov 11 2026. No macro, syntax, notation, axiom, sorry.
-/
import Derived.Test.YteiifligdfnifaaDoorChecked
import GoSem.Claim
import GoSem.ClaimJoined
import GoSem.ClaimMapViews
import Derived.JoinedTies
import Derived.KernelRfl
namespace Go.Proofs.YteiifligdfnifaaDoor
/- THE CELL 'sum', in the pinned program and in every row, IS THE sha256 OF THE DUMP (.gsa) THAT YteiifligdfnifaaDoorProg.lean LOADS. Nothing in Lean hashes anything: it is a label: what it is worth is what the hold of that sum in a sandbox is worth. -/
noncomputable def Tryd.pinned : Pinned := { name := "yteiifligdfnifaadoor", sum := "2a553dd432cbf673490ad51cd33ba19bc42da12ecc3fb12a76ffaa701bf7f630", checked := Tryd.checked }
namespace Rows
def none {H : Type} : Left H := { results := [], args := [] }

/- WHAT THE LISTED PACKAGE-LEVEL VARIABLES READ AS WHEN THE CALL BEGINS. Each datum BY PROGRAM (the guide's laid-datum.mjs) off the statement by which the dump's own 'gosem.cut.vars' lays the variable. In a bare row this is a premise. The card (YteiifligdfnifaaDoorCards.lean) ties it to the program's text. -/
def laid_bytes_ErrTooLarge {H : Type} : DataW H := .iface "*errors.errorString" (.ptr (.agg [.lit (.string [98, 121, 116, 101, 115, 46, 66, 117, 102, 102, 101, 114, 58, 32, 116, 111, 111, 32, 108, 97, 114, 103, 101])]))

/-- 'althinglaw21.ClientTurns': WHATEVER THE INPUT: true; the input reads as it did. -/
def clientTurnsSpec : ChangeSpec := { name := "clientTurns", fn := fun _ => fun
  | [d1, d2] => { results := [.lit (.bool true)], args := [d1, d2] }
  | _ => none }
def clientTurnsRow : OpenClaim := { program := "yteiifligdfnifaadoor", sum := "2a553dd432cbf673490ad51cd33ba19bc42da12ecc3fb12a76ffaa701bf7f630", func := "althing/althinglaw21.ClientTurns", spec := "clientTurns", unfollowed := true, recurses := true, named := ["bytes.ErrTooLarge"], apart := false, laid := [("bytes.ErrTooLarge", laid_bytes_ErrTooLarge)] }
def ClientTurnsSaid : Prop := clientTurnsRow.holds Tryd.pinned (OpenSpec.ofChange clientTurnsSpec)

/-- ITS FALSE NEIGHBOUR: 'it returns false'. Refute it at one input. -/
def clientTurnsWrong : ChangeSpec := { name := "clientTurns", fn := fun _ => fun
  | [d1, d2] => { results := [.lit (.bool false)], args := [d1, d2] }
  | _ => none }
def ClientTurnsWrongFalsely : Prop := clientTurnsRow.holds Tryd.pinned (OpenSpec.ofChange clientTurnsWrong)

/-- 'althinglaw21.ClientOnce': WHATEVER THE INPUT: true; the input reads as it did. -/
def clientOnceSpec : ChangeSpec := { name := "clientOnce", fn := fun _ => fun
  | [d1, d2] => { results := [.lit (.bool true)], args := [d1, d2] }
  | _ => none }
def clientOnceRow : OpenClaim := { program := "yteiifligdfnifaadoor", sum := "2a553dd432cbf673490ad51cd33ba19bc42da12ecc3fb12a76ffaa701bf7f630", func := "althing/althinglaw21.ClientOnce", spec := "clientOnce", unfollowed := true, recurses := true, named := ["bytes.ErrTooLarge"], apart := false, laid := [("bytes.ErrTooLarge", laid_bytes_ErrTooLarge)] }
def ClientOnceSaid : Prop := clientOnceRow.holds Tryd.pinned (OpenSpec.ofChange clientOnceSpec)

/-- ITS FALSE NEIGHBOUR: 'it returns false'. Refute it at one input. -/
def clientOnceWrong : ChangeSpec := { name := "clientOnce", fn := fun _ => fun
  | [d1, d2] => { results := [.lit (.bool false)], args := [d1, d2] }
  | _ => none }
def ClientOnceWrongFalsely : Prop := clientOnceRow.holds Tryd.pinned (OpenSpec.ofChange clientOnceWrong)

/-- 'althinglaw21.ClientLease': WHATEVER THE INPUT: true; the input reads as it did. -/
def clientLeaseSpec : ChangeSpec := { name := "clientLease", fn := fun _ => fun
  | [d1, d2] => { results := [.lit (.bool true)], args := [d1, d2] }
  | _ => none }
def clientLeaseRow : OpenClaim := { program := "yteiifligdfnifaadoor", sum := "2a553dd432cbf673490ad51cd33ba19bc42da12ecc3fb12a76ffaa701bf7f630", func := "althing/althinglaw21.ClientLease", spec := "clientLease", unfollowed := true, recurses := true, named := ["bytes.ErrTooLarge"], apart := false, laid := [("bytes.ErrTooLarge", laid_bytes_ErrTooLarge)] }
def ClientLeaseSaid : Prop := clientLeaseRow.holds Tryd.pinned (OpenSpec.ofChange clientLeaseSpec)

/-- ITS FALSE NEIGHBOUR: 'it returns false'. Refute it at one input. -/
def clientLeaseWrong : ChangeSpec := { name := "clientLease", fn := fun _ => fun
  | [d1, d2] => { results := [.lit (.bool false)], args := [d1, d2] }
  | _ => none }
def ClientLeaseWrongFalsely : Prop := clientLeaseRow.holds Tryd.pinned (OpenSpec.ofChange clientLeaseWrong)

/-- 'althinglaw21.ClientEvents': WHATEVER THE INPUT: true; the input reads as it did. -/
def clientEventsSpec : ChangeSpec := { name := "clientEvents", fn := fun _ => fun
  | [d] => { results := [.lit (.bool true)], args := [d] }
  | _ => none }
def clientEventsRow : OpenClaim := { program := "yteiifligdfnifaadoor", sum := "2a553dd432cbf673490ad51cd33ba19bc42da12ecc3fb12a76ffaa701bf7f630", func := "althing/althinglaw21.ClientEvents", spec := "clientEvents", unfollowed := true, recurses := true, named := ["bytes.ErrTooLarge"], apart := false, laid := [("bytes.ErrTooLarge", laid_bytes_ErrTooLarge)] }
def ClientEventsSaid : Prop := clientEventsRow.holds Tryd.pinned (OpenSpec.ofChange clientEventsSpec)

/-- ITS FALSE NEIGHBOUR: 'it returns false'. Refute it at one input. -/
def clientEventsWrong : ChangeSpec := { name := "clientEvents", fn := fun _ => fun
  | [d] => { results := [.lit (.bool false)], args := [d] }
  | _ => none }
def ClientEventsWrongFalsely : Prop := clientEventsRow.holds Tryd.pinned (OpenSpec.ofChange clientEventsWrong)

/- THE SECOND FORM. 'bulk': how many values and letters a reading holds, each counted each time it is reached (what is shared counts as often as it is met; a slice's spare places count too). A statement '..UptoSaid' is the law's where the arguments, and the package variables that the reading takes, are together of bulk at most 1048576: NARROWER than '..Said'. Prove '..Said' where nothing that the law and all that it calls make is longer than what came in: it says more and counts as full. Else prove '..UptoSaid'. A law counts once. -/
mutual
def uptoBulk {H : Type} : DataW H → Nat
  | .lit (.string bytes) => bytes.length + 1
  | .lit _ => 1
  | .nil => 1
  | .ptr d => uptoBulk d + 1
  | .slice elems spare => uptoBulkAll elems + uptoBulkAll spare + 1
  | .agg parts => uptoBulkAll parts + 1
  | .iface _ d => uptoBulk d + 1
  | .map entries => uptoBulkEntries entries + 1
  | .held _ => 1
def uptoBulkAll {H : Type} : List (DataW H) → Nat
  | [] => 0
  | d :: r => uptoBulk d + uptoBulkAll r
def uptoBulkEntries {H : Type} : List (Lit × DataW H) → Nat
  | [] => 0
  | x :: r => uptoBulkEntry x + uptoBulkEntries r
def uptoBulkEntry {H : Type} : Lit × DataW H → Nat
  | (.string bytes, d) => bytes.length + uptoBulk d + 1
  | (_, d) => uptoBulk d + 1
 end
def uptoSmall : (H : Type) → List (DataW H) → Bool := fun _ ds => decide (uptoBulkAll ds ≤ 1048576)
def OpenSpec.upto (s : _root_.Go.ChangeSpec) : _root_.Go.OpenSpec := { _root_.Go.OpenSpec.ofChange s with cond := some uptoSmall }

/-- 'althinglaw21.ClientTurns', WHERE WHAT IT READS IS OF BULK AT MOST 1048576: true; the input reads as it did. -/
def clientTurnsUptoRow : OpenClaim := { program := "yteiifligdfnifaadoor", sum := "2a553dd432cbf673490ad51cd33ba19bc42da12ecc3fb12a76ffaa701bf7f630", func := "althing/althinglaw21.ClientTurns", spec := "clientTurns", unfollowed := true, recurses := true, named := ["bytes.ErrTooLarge"], apart := false, laid := [("bytes.ErrTooLarge", laid_bytes_ErrTooLarge)], narrowed := true }
def ClientTurnsUptoSaid : Prop := clientTurnsUptoRow.holds Tryd.pinned (OpenSpec.upto clientTurnsSpec)

/-- 'althinglaw21.ClientOnce', WHERE WHAT IT READS IS OF BULK AT MOST 1048576: true; the input reads as it did. -/
def clientOnceUptoRow : OpenClaim := { program := "yteiifligdfnifaadoor", sum := "2a553dd432cbf673490ad51cd33ba19bc42da12ecc3fb12a76ffaa701bf7f630", func := "althing/althinglaw21.ClientOnce", spec := "clientOnce", unfollowed := true, recurses := true, named := ["bytes.ErrTooLarge"], apart := false, laid := [("bytes.ErrTooLarge", laid_bytes_ErrTooLarge)], narrowed := true }
def ClientOnceUptoSaid : Prop := clientOnceUptoRow.holds Tryd.pinned (OpenSpec.upto clientOnceSpec)

/-- 'althinglaw21.ClientLease', WHERE WHAT IT READS IS OF BULK AT MOST 1048576: true; the input reads as it did. -/
def clientLeaseUptoRow : OpenClaim := { program := "yteiifligdfnifaadoor", sum := "2a553dd432cbf673490ad51cd33ba19bc42da12ecc3fb12a76ffaa701bf7f630", func := "althing/althinglaw21.ClientLease", spec := "clientLease", unfollowed := true, recurses := true, named := ["bytes.ErrTooLarge"], apart := false, laid := [("bytes.ErrTooLarge", laid_bytes_ErrTooLarge)], narrowed := true }
def ClientLeaseUptoSaid : Prop := clientLeaseUptoRow.holds Tryd.pinned (OpenSpec.upto clientLeaseSpec)

/-- 'althinglaw21.ClientEvents', WHERE WHAT IT READS IS OF BULK AT MOST 1048576: true; the input reads as it did. -/
def clientEventsUptoRow : OpenClaim := { program := "yteiifligdfnifaadoor", sum := "2a553dd432cbf673490ad51cd33ba19bc42da12ecc3fb12a76ffaa701bf7f630", func := "althing/althinglaw21.ClientEvents", spec := "clientEvents", unfollowed := true, recurses := true, named := ["bytes.ErrTooLarge"], apart := false, laid := [("bytes.ErrTooLarge", laid_bytes_ErrTooLarge)], narrowed := true }
def ClientEventsUptoSaid : Prop := clientEventsUptoRow.holds Tryd.pinned (OpenSpec.upto clientEventsSpec)

end Rows
end Go.Proofs.YteiifligdfnifaaDoor
