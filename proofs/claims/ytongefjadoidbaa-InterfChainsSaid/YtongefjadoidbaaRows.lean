/-
  No cell of these rows narrows 'for every input' (looked for: loops, veiled, ifaces, maps, wideKeys, modest, calm, conditions, laid).
  DERIVED. THE GIVEN ROWS OF THIS SEAT. 4 by the template 'for every input the law returns true; each argument reads behind the call as it read before'; 0 by the template 'total and deterministic' (their statements: YtongefjadoidbaaTotals.lean).
  GIVEN WITH THE SEED: the statements are not yours to turn. If you find one false, say at which input.
  Laid BY PROGRAM, IN A SANDBOX (cutbox-rows.mjs): the forced cells as the released guide's own fill.sh prints them over the translation 582ac67217bf000a… (all of the seat's roots in one cut). By AI agents, Wed Nov 11 2026. No macro, syntax, notation, axiom, sorry.
-/
import Derived.Test.YtongefjadoidbaaChecked
import GoSem.Claim
import GoSem.ClaimJoined
import GoSem.ClaimMapViews
import Derived.JoinedTies
import Derived.KernelRfl
namespace Go.Proofs.Ytongefjadoidbaa
/- THE CELL 'sum', in the pinned program and in every row, IS THE sha256 OF THE DUMP (.gsa) THAT YtongefjadoidbaaProg.lean LOADS. Nothing in Lean hashes anything: it is a label: what it is worth is what the hold of that sum in a sandbox is worth. -/
noncomputable def Try.pinned : Pinned := { name := "ytongefjadoidbaa", sum := "582ac67217bf000a9dc989b8cbf3a7469fcbc5adfd3b688238e0c3a5a6ea269c", checked := Try.checked }
namespace Rows
def none {H : Type} : Left H := { results := [], args := [] }

/-- 'althinglaw10.InterfCovers': WHATEVER THE INPUT: true; the input reads as it did. -/
def interfCoversSpec : ChangeSpec := { name := "interfCovers", fn := fun _ => fun
  | [d1, d2, d3] => { results := [.lit (.bool true)], args := [d1, d2, d3] }
  | _ => none }
def interfCoversRow : OpenClaim := { program := "ytongefjadoidbaa", sum := "582ac67217bf000a9dc989b8cbf3a7469fcbc5adfd3b688238e0c3a5a6ea269c", func := "althing/althinglaw10.InterfCovers", spec := "interfCovers", unfollowed := true, recurses := true, apart := false }
def InterfCoversSaid : Prop := interfCoversRow.holds Try.pinned (OpenSpec.ofChange interfCoversSpec)

/-- ITS FALSE NEIGHBOUR: 'it returns false'. Refute it at one input. -/
def interfCoversWrong : ChangeSpec := { name := "interfCovers", fn := fun _ => fun
  | [d1, d2, d3] => { results := [.lit (.bool false)], args := [d1, d2, d3] }
  | _ => none }
def InterfCoversWrongFalsely : Prop := interfCoversRow.holds Try.pinned (OpenSpec.ofChange interfCoversWrong)

/-- 'althinglaw10.InterfChains': WHATEVER THE INPUT: true; the input reads as it did. -/
def interfChainsSpec : ChangeSpec := { name := "interfChains", fn := fun _ => fun
  | [d1, d2] => { results := [.lit (.bool true)], args := [d1, d2] }
  | _ => none }
def interfChainsRow : OpenClaim := { program := "ytongefjadoidbaa", sum := "582ac67217bf000a9dc989b8cbf3a7469fcbc5adfd3b688238e0c3a5a6ea269c", func := "althing/althinglaw10.InterfChains", spec := "interfChains", unfollowed := true, recurses := true, apart := false }
def InterfChainsSaid : Prop := interfChainsRow.holds Try.pinned (OpenSpec.ofChange interfChainsSpec)

/-- ITS FALSE NEIGHBOUR: 'it returns false'. Refute it at one input. -/
def interfChainsWrong : ChangeSpec := { name := "interfChains", fn := fun _ => fun
  | [d1, d2] => { results := [.lit (.bool false)], args := [d1, d2] }
  | _ => none }
def InterfChainsWrongFalsely : Prop := interfChainsRow.holds Try.pinned (OpenSpec.ofChange interfChainsWrong)

/-- 'althinglaw10.InterfPlays': WHATEVER THE INPUT: true; the input reads as it did. -/
def interfPlaysSpec : ChangeSpec := { name := "interfPlays", fn := fun _ => fun
  | [d1, d2, d3] => { results := [.lit (.bool true)], args := [d1, d2, d3] }
  | _ => none }
def interfPlaysRow : OpenClaim := { program := "ytongefjadoidbaa", sum := "582ac67217bf000a9dc989b8cbf3a7469fcbc5adfd3b688238e0c3a5a6ea269c", func := "althing/althinglaw10.InterfPlays", spec := "interfPlays", unfollowed := true, recurses := true, apart := false }
def InterfPlaysSaid : Prop := interfPlaysRow.holds Try.pinned (OpenSpec.ofChange interfPlaysSpec)

/-- ITS FALSE NEIGHBOUR: 'it returns false'. Refute it at one input. -/
def interfPlaysWrong : ChangeSpec := { name := "interfPlays", fn := fun _ => fun
  | [d1, d2, d3] => { results := [.lit (.bool false)], args := [d1, d2, d3] }
  | _ => none }
def InterfPlaysWrongFalsely : Prop := interfPlaysRow.holds Try.pinned (OpenSpec.ofChange interfPlaysWrong)

/-- 'althinglaw10.InterfOrder': WHATEVER THE INPUT: true; the input reads as it did. -/
def interfOrderSpec : ChangeSpec := { name := "interfOrder", fn := fun _ => fun
  | [d1, d2, d3] => { results := [.lit (.bool true)], args := [d1, d2, d3] }
  | _ => none }
def interfOrderRow : OpenClaim := { program := "ytongefjadoidbaa", sum := "582ac67217bf000a9dc989b8cbf3a7469fcbc5adfd3b688238e0c3a5a6ea269c", func := "althing/althinglaw10.InterfOrder", spec := "interfOrder", unfollowed := true, recurses := true, apart := false }
def InterfOrderSaid : Prop := interfOrderRow.holds Try.pinned (OpenSpec.ofChange interfOrderSpec)

/-- ITS FALSE NEIGHBOUR: 'it returns false'. Refute it at one input. -/
def interfOrderWrong : ChangeSpec := { name := "interfOrder", fn := fun _ => fun
  | [d1, d2, d3] => { results := [.lit (.bool false)], args := [d1, d2, d3] }
  | _ => none }
def InterfOrderWrongFalsely : Prop := interfOrderRow.holds Try.pinned (OpenSpec.ofChange interfOrderWrong)

/- THE SECOND FORM. 'bulk': how many values and letters a reading holds, each counted each time it is reached (what is shared counts as often as it is met; a slice's spare places count too). A statement '..UptoSaid' is the law's where the arguments, and the package variables that the reading takes, are together of bulk at most 1048576: NARROWER than '..Said'. Prove '..Said' where nothing that the law and all that it calls make is longer than what came in: it says more and counts as full. Else prove '..UptoSaid'. A law counts once. -/
mutual
def uptoBulk {H : Type} : DataW H → Nat
  | .lit (.string bytes) => bytes.length + 1
  | .lit _ => 1
  | .nil => 1
  | .ptr d => uptoBulk d + 1
  | .slice elems spare => uptoBulkAll elems + uptoBulkAll spare + 1
  | .agg parts => uptoBulkAll parts + 1
  | .iface _ d => uptoBulk d + 1
  | .map entries => uptoBulkEntries entries + 1
  | .held _ => 1
def uptoBulkAll {H : Type} : List (DataW H) → Nat
  | [] => 0
  | d :: r => uptoBulk d + uptoBulkAll r
def uptoBulkEntries {H : Type} : List (Lit × DataW H) → Nat
  | [] => 0
  | x :: r => uptoBulkEntry x + uptoBulkEntries r
def uptoBulkEntry {H : Type} : Lit × DataW H → Nat
  | (.string bytes, d) => bytes.length + uptoBulk d + 1
  | (_, d) => uptoBulk d + 1
 end
def uptoSmall : (H : Type) → List (DataW H) → Bool := fun _ ds => decide (uptoBulkAll ds ≤ 1048576)
def OpenSpec.upto (s : _root_.Go.ChangeSpec) : _root_.Go.OpenSpec := { _root_.Go.OpenSpec.ofChange s with cond := some uptoSmall }

/-- 'althinglaw10.InterfCovers', WHERE WHAT IT READS IS OF BULK AT MOST 1048576: true; the input reads as it did. -/
def interfCoversUptoRow : OpenClaim := { program := "ytongefjadoidbaa", sum := "582ac67217bf000a9dc989b8cbf3a7469fcbc5adfd3b688238e0c3a5a6ea269c", func := "althing/althinglaw10.InterfCovers", spec := "interfCovers", unfollowed := true, recurses := true, apart := false, narrowed := true }
def InterfCoversUptoSaid : Prop := interfCoversUptoRow.holds Try.pinned (OpenSpec.upto interfCoversSpec)

/-- 'althinglaw10.InterfChains', WHERE WHAT IT READS IS OF BULK AT MOST 1048576: true; the input reads as it did. -/
def interfChainsUptoRow : OpenClaim := { program := "ytongefjadoidbaa", sum := "582ac67217bf000a9dc989b8cbf3a7469fcbc5adfd3b688238e0c3a5a6ea269c", func := "althing/althinglaw10.InterfChains", spec := "interfChains", unfollowed := true, recurses := true, apart := false, narrowed := true }
def InterfChainsUptoSaid : Prop := interfChainsUptoRow.holds Try.pinned (OpenSpec.upto interfChainsSpec)

/-- 'althinglaw10.InterfPlays', WHERE WHAT IT READS IS OF BULK AT MOST 1048576: true; the input reads as it did. -/
def interfPlaysUptoRow : OpenClaim := { program := "ytongefjadoidbaa", sum := "582ac67217bf000a9dc989b8cbf3a7469fcbc5adfd3b688238e0c3a5a6ea269c", func := "althing/althinglaw10.InterfPlays", spec := "interfPlays", unfollowed := true, recurses := true, apart := false, narrowed := true }
def InterfPlaysUptoSaid : Prop := interfPlaysUptoRow.holds Try.pinned (OpenSpec.upto interfPlaysSpec)

/-- 'althinglaw10.InterfOrder', WHERE WHAT IT READS IS OF BULK AT MOST 1048576: true; the input reads as it did. -/
def interfOrderUptoRow : OpenClaim := { program := "ytongefjadoidbaa", sum := "582ac67217bf000a9dc989b8cbf3a7469fcbc5adfd3b688238e0c3a5a6ea269c", func := "althing/althinglaw10.InterfOrder", spec := "interfOrder", unfollowed := true, recurses := true, apart := false, narrowed := true }
def InterfOrderUptoSaid : Prop := interfOrderUptoRow.holds Try.pinned (OpenSpec.upto interfOrderSpec)

end Rows
end Go.Proofs.Ytongefjadoidbaa
