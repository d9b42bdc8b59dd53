/-
  No cell of these rows narrows 'for every input' (looked for: loops, veiled, ifaces, maps, wideKeys, modest, calm, conditions, laid).
  DERIVED. THE GIVEN ROWS OF THIS SEAT. 4 by the template 'for every input the law returns true; each argument reads behind the call as it read before'; 0 by the template 'total and deterministic' (their statements: YtmhlckicjojmoaaTotals.lean).
  GIVEN WITH THE SEED: the statements are not yours to turn. If you find one false, say at which input.
  Laid BY PROGRAM, IN A SANDBOX (cutbox-rows.mjs): the forced cells as the released guide's own fill.sh prints them over the translation 7e6f84c7a21ce16d… (all of the seat's roots in one cut). By AI agents, Wed Nov 11 2026. No macro, syntax, notation, axiom, sorry.
-/
import Derived.Test.YtmhlckicjojmoaaChecked
import GoSem.Claim
import GoSem.ClaimJoined
import GoSem.ClaimMapViews
import Derived.JoinedTies
import Derived.KernelRfl
namespace Go.Proofs.Ytmhlckicjojmoaa
/- THE CELL 'sum', in the pinned program and in every row, IS THE sha256 OF THE DUMP (.gsa) THAT YtmhlckicjojmoaaProg.lean LOADS. Nothing in Lean hashes anything: it is a label: what it is worth is what the hold of that sum in a sandbox is worth. -/
noncomputable def Try.pinned : Pinned := { name := "ytmhlckicjojmoaa", sum := "7e6f84c7a21ce16d5bdcd903153b5ec987d0a6830cb16ec71e8be2714be4ec10", checked := Try.checked }
namespace Rows
def none {H : Type} : Left H := { results := [], args := [] }

/-- 'althinglaw19.ReconfNews': WHATEVER THE INPUT: true; the input reads as it did. -/
def reconfNewsSpec : ChangeSpec := { name := "reconfNews", fn := fun _ => fun
  | [d] => { results := [.lit (.bool true)], args := [d] }
  | _ => none }
def reconfNewsRow : OpenClaim := { program := "ytmhlckicjojmoaa", sum := "7e6f84c7a21ce16d5bdcd903153b5ec987d0a6830cb16ec71e8be2714be4ec10", func := "althing/althinglaw19.ReconfNews", spec := "reconfNews", unfollowed := true, recurses := true, apart := false }
def ReconfNewsSaid : Prop := reconfNewsRow.holds Try.pinned (OpenSpec.ofChange reconfNewsSpec)

/-- ITS FALSE NEIGHBOUR: 'it returns false'. Refute it at one input. -/
def reconfNewsWrong : ChangeSpec := { name := "reconfNews", fn := fun _ => fun
  | [d] => { results := [.lit (.bool false)], args := [d] }
  | _ => none }
def ReconfNewsWrongFalsely : Prop := reconfNewsRow.holds Try.pinned (OpenSpec.ofChange reconfNewsWrong)

/-- 'althinglaw19.ReconfQuorums': WHATEVER THE INPUT: true; the input reads as it did. -/
def reconfQuorumsSpec : ChangeSpec := { name := "reconfQuorums", fn := fun _ => fun
  | [d] => { results := [.lit (.bool true)], args := [d] }
  | _ => none }
def reconfQuorumsRow : OpenClaim := { program := "ytmhlckicjojmoaa", sum := "7e6f84c7a21ce16d5bdcd903153b5ec987d0a6830cb16ec71e8be2714be4ec10", func := "althing/althinglaw19.ReconfQuorums", spec := "reconfQuorums", unfollowed := true, recurses := true, apart := false }
def ReconfQuorumsSaid : Prop := reconfQuorumsRow.holds Try.pinned (OpenSpec.ofChange reconfQuorumsSpec)

/-- ITS FALSE NEIGHBOUR: 'it returns false'. Refute it at one input. -/
def reconfQuorumsWrong : ChangeSpec := { name := "reconfQuorums", fn := fun _ => fun
  | [d] => { results := [.lit (.bool false)], args := [d] }
  | _ => none }
def ReconfQuorumsWrongFalsely : Prop := reconfQuorumsRow.holds Try.pinned (OpenSpec.ofChange reconfQuorumsWrong)

/-- 'althinglaw19.ReconfNear': WHATEVER THE INPUT: true; the input reads as it did. -/
def reconfNearSpec : ChangeSpec := { name := "reconfNear", fn := fun _ => fun
  | [d] => { results := [.lit (.bool true)], args := [d] }
  | _ => none }
def reconfNearRow : OpenClaim := { program := "ytmhlckicjojmoaa", sum := "7e6f84c7a21ce16d5bdcd903153b5ec987d0a6830cb16ec71e8be2714be4ec10", func := "althing/althinglaw19.ReconfNear", spec := "reconfNear", unfollowed := true, recurses := true, apart := false }
def ReconfNearSaid : Prop := reconfNearRow.holds Try.pinned (OpenSpec.ofChange reconfNearSpec)

/-- ITS FALSE NEIGHBOUR: 'it returns false'. Refute it at one input. -/
def reconfNearWrong : ChangeSpec := { name := "reconfNear", fn := fun _ => fun
  | [d] => { results := [.lit (.bool false)], args := [d] }
  | _ => none }
def ReconfNearWrongFalsely : Prop := reconfNearRow.holds Try.pinned (OpenSpec.ofChange reconfNearWrong)

/-- 'althinglaw19.ReconfMeets': WHATEVER THE INPUT: true; the input reads as it did. -/
def reconfMeetsSpec : ChangeSpec := { name := "reconfMeets", fn := fun _ => fun
  | [d] => { results := [.lit (.bool true)], args := [d] }
  | _ => none }
def reconfMeetsRow : OpenClaim := { program := "ytmhlckicjojmoaa", sum := "7e6f84c7a21ce16d5bdcd903153b5ec987d0a6830cb16ec71e8be2714be4ec10", func := "althing/althinglaw19.ReconfMeets", spec := "reconfMeets", unfollowed := true, recurses := true, apart := false }
def ReconfMeetsSaid : Prop := reconfMeetsRow.holds Try.pinned (OpenSpec.ofChange reconfMeetsSpec)

/-- ITS FALSE NEIGHBOUR: 'it returns false'. Refute it at one input. -/
def reconfMeetsWrong : ChangeSpec := { name := "reconfMeets", fn := fun _ => fun
  | [d] => { results := [.lit (.bool false)], args := [d] }
  | _ => none }
def ReconfMeetsWrongFalsely : Prop := reconfMeetsRow.holds Try.pinned (OpenSpec.ofChange reconfMeetsWrong)

/- THE SECOND FORM. 'bulk': how many values and letters a reading holds, each counted each time it is reached (what is shared counts as often as it is met; a slice's spare places count too). A statement '..UptoSaid' is the law's where the arguments, and the package variables that the reading takes, are together of bulk at most 1048576: NARROWER than '..Said'. Prove '..Said' where nothing that the law and all that it calls make is longer than what came in: it says more and counts as full. Else prove '..UptoSaid'. A law counts once. -/
mutual
def uptoBulk {H : Type} : DataW H → Nat
  | .lit (.string bytes) => bytes.length + 1
  | .lit _ => 1
  | .nil => 1
  | .ptr d => uptoBulk d + 1
  | .slice elems spare => uptoBulkAll elems + uptoBulkAll spare + 1
  | .agg parts => uptoBulkAll parts + 1
  | .iface _ d => uptoBulk d + 1
  | .map entries => uptoBulkEntries entries + 1
  | .held _ => 1
def uptoBulkAll {H : Type} : List (DataW H) → Nat
  | [] => 0
  | d :: r => uptoBulk d + uptoBulkAll r
def uptoBulkEntries {H : Type} : List (Lit × DataW H) → Nat
  | [] => 0
  | x :: r => uptoBulkEntry x + uptoBulkEntries r
def uptoBulkEntry {H : Type} : Lit × DataW H → Nat
  | (.string bytes, d) => bytes.length + uptoBulk d + 1
  | (_, d) => uptoBulk d + 1
 end
def uptoSmall : (H : Type) → List (DataW H) → Bool := fun _ ds => decide (uptoBulkAll ds ≤ 1048576)
def OpenSpec.upto (s : _root_.Go.ChangeSpec) : _root_.Go.OpenSpec := { _root_.Go.OpenSpec.ofChange s with cond := some uptoSmall }

/-- 'althinglaw19.ReconfNews', WHERE WHAT IT READS IS OF BULK AT MOST 1048576: true; the input reads as it did. -/
def reconfNewsUptoRow : OpenClaim := { program := "ytmhlckicjojmoaa", sum := "7e6f84c7a21ce16d5bdcd903153b5ec987d0a6830cb16ec71e8be2714be4ec10", func := "althing/althinglaw19.ReconfNews", spec := "reconfNews", unfollowed := true, recurses := true, apart := false, narrowed := true }
def ReconfNewsUptoSaid : Prop := reconfNewsUptoRow.holds Try.pinned (OpenSpec.upto reconfNewsSpec)

/-- 'althinglaw19.ReconfQuorums', WHERE WHAT IT READS IS OF BULK AT MOST 1048576: true; the input reads as it did. -/
def reconfQuorumsUptoRow : OpenClaim := { program := "ytmhlckicjojmoaa", sum := "7e6f84c7a21ce16d5bdcd903153b5ec987d0a6830cb16ec71e8be2714be4ec10", func := "althing/althinglaw19.ReconfQuorums", spec := "reconfQuorums", unfollowed := true, recurses := true, apart := false, narrowed := true }
def ReconfQuorumsUptoSaid : Prop := reconfQuorumsUptoRow.holds Try.pinned (OpenSpec.upto reconfQuorumsSpec)

/-- 'althinglaw19.ReconfNear', WHERE WHAT IT READS IS OF BULK AT MOST 1048576: true; the input reads as it did. -/
def reconfNearUptoRow : OpenClaim := { program := "ytmhlckicjojmoaa", sum := "7e6f84c7a21ce16d5bdcd903153b5ec987d0a6830cb16ec71e8be2714be4ec10", func := "althing/althinglaw19.ReconfNear", spec := "reconfNear", unfollowed := true, recurses := true, apart := false, narrowed := true }
def ReconfNearUptoSaid : Prop := reconfNearUptoRow.holds Try.pinned (OpenSpec.upto reconfNearSpec)

/-- 'althinglaw19.ReconfMeets', WHERE WHAT IT READS IS OF BULK AT MOST 1048576: true; the input reads as it did. -/
def reconfMeetsUptoRow : OpenClaim := { program := "ytmhlckicjojmoaa", sum := "7e6f84c7a21ce16d5bdcd903153b5ec987d0a6830cb16ec71e8be2714be4ec10", func := "althing/althinglaw19.ReconfMeets", spec := "reconfMeets", unfollowed := true, recurses := true, apart := false, narrowed := true }
def ReconfMeetsUptoSaid : Prop := reconfMeetsUptoRow.holds Try.pinned (OpenSpec.upto reconfMeetsSpec)

end Rows
end Go.Proofs.Ytmhlckicjojmoaa
