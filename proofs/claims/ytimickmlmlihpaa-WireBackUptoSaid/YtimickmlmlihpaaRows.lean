/-
  No cell of these rows narrows 'for every input' (looked for: loops, veiled, ifaces, maps, wideKeys, modest, calm, conditions, laid).
  DERIVED. THE GIVEN ROWS OF THIS SEAT. 6 by the template 'for every input the law returns true; each argument reads behind the call as it read before'; 0 by the template 'total and deterministic' (their statements: YtimickmlmlihpaaTotals.lean).
  GIVEN WITH THE SEED: the statements are not yours to turn. If you find one false, say at which input.
  Laid BY PROGRAM, IN A SANDBOX (cutbox-rows.mjs): the forced cells as the released guide's own fill.sh prints them over the translation e957a6be13a31fda… (all of the seat's roots in one cut). By AI agents, Wed Nov 11 2026. No macro, syntax, notation, axiom, sorry.
-/
import Derived.Test.YtimickmlmlihpaaChecked
import GoSem.Claim
import GoSem.ClaimJoined
import GoSem.ClaimMapViews
import Derived.JoinedTies
import Derived.KernelRfl
namespace Go.Proofs.Ytimickmlmlihpaa
/- THE CELL 'sum', in the pinned program and in every row, IS THE sha256 OF THE DUMP (.gsa) THAT YtimickmlmlihpaaProg.lean LOADS. Nothing in Lean hashes anything: it is a label: what it is worth is what the hold of that sum in a sandbox is worth. -/
noncomputable def Try.pinned : Pinned := { name := "ytimickmlmlihpaa", sum := "e957a6be13a31fda552f4c9fcf6e28a26811629ee39ae0d4d27aadcea27cc84e", checked := Try.checked }
namespace Rows
def none {H : Type} : Left H := { results := [], args := [] }

/-- 'althinglaw01.WireSums': WHATEVER THE INPUT: true; the input reads as it did. -/
def wireSumsSpec : ChangeSpec := { name := "wireSums", fn := fun _ => fun
  | [d] => { results := [.lit (.bool true)], args := [d] }
  | _ => none }
def wireSumsRow : OpenClaim := { program := "ytimickmlmlihpaa", sum := "e957a6be13a31fda552f4c9fcf6e28a26811629ee39ae0d4d27aadcea27cc84e", func := "althing/althinglaw01.WireSums", spec := "wireSums", apart := false }
def WireSumsSaid : Prop := wireSumsRow.holds Try.pinned (OpenSpec.ofChange wireSumsSpec)

/-- ITS FALSE NEIGHBOUR: 'it returns false'. Refute it at one input. -/
def wireSumsWrong : ChangeSpec := { name := "wireSums", fn := fun _ => fun
  | [d] => { results := [.lit (.bool false)], args := [d] }
  | _ => none }
def WireSumsWrongFalsely : Prop := wireSumsRow.holds Try.pinned (OpenSpec.ofChange wireSumsWrong)

/-- 'althinglaw01.WireNumbers': WHATEVER THE INPUT: true; the input reads as it did. -/
def wireNumbersSpec : ChangeSpec := { name := "wireNumbers", fn := fun _ => fun
  | [d1, d2, d3] => { results := [.lit (.bool true)], args := [d1, d2, d3] }
  | _ => none }
def wireNumbersRow : OpenClaim := { program := "ytimickmlmlihpaa", sum := "e957a6be13a31fda552f4c9fcf6e28a26811629ee39ae0d4d27aadcea27cc84e", func := "althing/althinglaw01.WireNumbers", spec := "wireNumbers", apart := false }
def WireNumbersSaid : Prop := wireNumbersRow.holds Try.pinned (OpenSpec.ofChange wireNumbersSpec)

/-- ITS FALSE NEIGHBOUR: 'it returns false'. Refute it at one input. -/
def wireNumbersWrong : ChangeSpec := { name := "wireNumbers", fn := fun _ => fun
  | [d1, d2, d3] => { results := [.lit (.bool false)], args := [d1, d2, d3] }
  | _ => none }
def WireNumbersWrongFalsely : Prop := wireNumbersRow.holds Try.pinned (OpenSpec.ofChange wireNumbersWrong)

/-- 'althinglaw01.WireOne': WHATEVER THE INPUT: true; the input reads as it did. -/
def wireOneSpec : ChangeSpec := { name := "wireOne", fn := fun _ => fun
  | [d1, d2] => { results := [.lit (.bool true)], args := [d1, d2] }
  | _ => none }
def wireOneRow : OpenClaim := { program := "ytimickmlmlihpaa", sum := "e957a6be13a31fda552f4c9fcf6e28a26811629ee39ae0d4d27aadcea27cc84e", func := "althing/althinglaw01.WireOne", spec := "wireOne", apart := false }
def WireOneSaid : Prop := wireOneRow.holds Try.pinned (OpenSpec.ofChange wireOneSpec)

/-- ITS FALSE NEIGHBOUR: 'it returns false'. Refute it at one input. -/
def wireOneWrong : ChangeSpec := { name := "wireOne", fn := fun _ => fun
  | [d1, d2] => { results := [.lit (.bool false)], args := [d1, d2] }
  | _ => none }
def WireOneWrongFalsely : Prop := wireOneRow.holds Try.pinned (OpenSpec.ofChange wireOneWrong)

/-- 'althinglaw01.WireFrames': WHATEVER THE INPUT: true; the input reads as it did. -/
def wireFramesSpec : ChangeSpec := { name := "wireFrames", fn := fun _ => fun
  | [d1, d2, d3] => { results := [.lit (.bool true)], args := [d1, d2, d3] }
  | _ => none }
def wireFramesRow : OpenClaim := { program := "ytimickmlmlihpaa", sum := "e957a6be13a31fda552f4c9fcf6e28a26811629ee39ae0d4d27aadcea27cc84e", func := "althing/althinglaw01.WireFrames", spec := "wireFrames", apart := false }
def WireFramesSaid : Prop := wireFramesRow.holds Try.pinned (OpenSpec.ofChange wireFramesSpec)

/-- ITS FALSE NEIGHBOUR: 'it returns false'. Refute it at one input. -/
def wireFramesWrong : ChangeSpec := { name := "wireFrames", fn := fun _ => fun
  | [d1, d2, d3] => { results := [.lit (.bool false)], args := [d1, d2, d3] }
  | _ => none }
def WireFramesWrongFalsely : Prop := wireFramesRow.holds Try.pinned (OpenSpec.ofChange wireFramesWrong)

/-- 'althinglaw01.WireBits': WHATEVER THE INPUT: true; the input reads as it did. -/
def wireBitsSpec : ChangeSpec := { name := "wireBits", fn := fun _ => fun
  | [d1, d2, d3] => { results := [.lit (.bool true)], args := [d1, d2, d3] }
  | _ => none }
def wireBitsRow : OpenClaim := { program := "ytimickmlmlihpaa", sum := "e957a6be13a31fda552f4c9fcf6e28a26811629ee39ae0d4d27aadcea27cc84e", func := "althing/althinglaw01.WireBits", spec := "wireBits", apart := false }
def WireBitsSaid : Prop := wireBitsRow.holds Try.pinned (OpenSpec.ofChange wireBitsSpec)

/-- ITS FALSE NEIGHBOUR: 'it returns false'. Refute it at one input. -/
def wireBitsWrong : ChangeSpec := { name := "wireBits", fn := fun _ => fun
  | [d1, d2, d3] => { results := [.lit (.bool false)], args := [d1, d2, d3] }
  | _ => none }
def WireBitsWrongFalsely : Prop := wireBitsRow.holds Try.pinned (OpenSpec.ofChange wireBitsWrong)

/-- 'althinglaw01.WireBack': WHATEVER THE INPUT: true; the input reads as it did. -/
def wireBackSpec : ChangeSpec := { name := "wireBack", fn := fun _ => fun
  | [d] => { results := [.lit (.bool true)], args := [d] }
  | _ => none }
def wireBackRow : OpenClaim := { program := "ytimickmlmlihpaa", sum := "e957a6be13a31fda552f4c9fcf6e28a26811629ee39ae0d4d27aadcea27cc84e", func := "althing/althinglaw01.WireBack", spec := "wireBack", apart := false }
def WireBackSaid : Prop := wireBackRow.holds Try.pinned (OpenSpec.ofChange wireBackSpec)

/-- ITS FALSE NEIGHBOUR: 'it returns false'. Refute it at one input. -/
def wireBackWrong : ChangeSpec := { name := "wireBack", fn := fun _ => fun
  | [d] => { results := [.lit (.bool false)], args := [d] }
  | _ => none }
def WireBackWrongFalsely : Prop := wireBackRow.holds Try.pinned (OpenSpec.ofChange wireBackWrong)

/- THE SECOND FORM. 'bulk': how many values and letters a reading holds, each counted each time it is reached (what is shared counts as often as it is met; a slice's spare places count too). A statement '..UptoSaid' is the law's where the arguments, and the package variables that the reading takes, are together of bulk at most 1048576: NARROWER than '..Said'. Prove '..Said' where nothing that the law and all that it calls make is longer than what came in: it says more and counts as full. Else prove '..UptoSaid'. A law counts once. -/
mutual
def uptoBulk {H : Type} : DataW H → Nat
  | .lit (.string bytes) => bytes.length + 1
  | .lit _ => 1
  | .nil => 1
  | .ptr d => uptoBulk d + 1
  | .slice elems spare => uptoBulkAll elems + uptoBulkAll spare + 1
  | .agg parts => uptoBulkAll parts + 1
  | .iface _ d => uptoBulk d + 1
  | .map entries => uptoBulkEntries entries + 1
  | .held _ => 1
def uptoBulkAll {H : Type} : List (DataW H) → Nat
  | [] => 0
  | d :: r => uptoBulk d + uptoBulkAll r
def uptoBulkEntries {H : Type} : List (Lit × DataW H) → Nat
  | [] => 0
  | x :: r => uptoBulkEntry x + uptoBulkEntries r
def uptoBulkEntry {H : Type} : Lit × DataW H → Nat
  | (.string bytes, d) => bytes.length + uptoBulk d + 1
  | (_, d) => uptoBulk d + 1
 end
def uptoSmall : (H : Type) → List (DataW H) → Bool := fun _ ds => decide (uptoBulkAll ds ≤ 1048576)
def OpenSpec.upto (s : _root_.Go.ChangeSpec) : _root_.Go.OpenSpec := { _root_.Go.OpenSpec.ofChange s with cond := some uptoSmall }

/-- 'althinglaw01.WireSums', WHERE WHAT IT READS IS OF BULK AT MOST 1048576: true; the input reads as it did. -/
def wireSumsUptoRow : OpenClaim := { program := "ytimickmlmlihpaa", sum := "e957a6be13a31fda552f4c9fcf6e28a26811629ee39ae0d4d27aadcea27cc84e", func := "althing/althinglaw01.WireSums", spec := "wireSums", apart := false, narrowed := true }
def WireSumsUptoSaid : Prop := wireSumsUptoRow.holds Try.pinned (OpenSpec.upto wireSumsSpec)

/-- 'althinglaw01.WireNumbers', WHERE WHAT IT READS IS OF BULK AT MOST 1048576: true; the input reads as it did. -/
def wireNumbersUptoRow : OpenClaim := { program := "ytimickmlmlihpaa", sum := "e957a6be13a31fda552f4c9fcf6e28a26811629ee39ae0d4d27aadcea27cc84e", func := "althing/althinglaw01.WireNumbers", spec := "wireNumbers", apart := false, narrowed := true }
def WireNumbersUptoSaid : Prop := wireNumbersUptoRow.holds Try.pinned (OpenSpec.upto wireNumbersSpec)

/-- 'althinglaw01.WireOne', WHERE WHAT IT READS IS OF BULK AT MOST 1048576: true; the input reads as it did. -/
def wireOneUptoRow : OpenClaim := { program := "ytimickmlmlihpaa", sum := "e957a6be13a31fda552f4c9fcf6e28a26811629ee39ae0d4d27aadcea27cc84e", func := "althing/althinglaw01.WireOne", spec := "wireOne", apart := false, narrowed := true }
def WireOneUptoSaid : Prop := wireOneUptoRow.holds Try.pinned (OpenSpec.upto wireOneSpec)

/-- 'althinglaw01.WireFrames', WHERE WHAT IT READS IS OF BULK AT MOST 1048576: true; the input reads as it did. -/
def wireFramesUptoRow : OpenClaim := { program := "ytimickmlmlihpaa", sum := "e957a6be13a31fda552f4c9fcf6e28a26811629ee39ae0d4d27aadcea27cc84e", func := "althing/althinglaw01.WireFrames", spec := "wireFrames", apart := false, narrowed := true }
def WireFramesUptoSaid : Prop := wireFramesUptoRow.holds Try.pinned (OpenSpec.upto wireFramesSpec)

/-- 'althinglaw01.WireBits', WHERE WHAT IT READS IS OF BULK AT MOST 1048576: true; the input reads as it did. -/
def wireBitsUptoRow : OpenClaim := { program := "ytimickmlmlihpaa", sum := "e957a6be13a31fda552f4c9fcf6e28a26811629ee39ae0d4d27aadcea27cc84e", func := "althing/althinglaw01.WireBits", spec := "wireBits", apart := false, narrowed := true }
def WireBitsUptoSaid : Prop := wireBitsUptoRow.holds Try.pinned (OpenSpec.upto wireBitsSpec)

/-- 'althinglaw01.WireBack', WHERE WHAT IT READS IS OF BULK AT MOST 1048576: true; the input reads as it did. -/
def wireBackUptoRow : OpenClaim := { program := "ytimickmlmlihpaa", sum := "e957a6be13a31fda552f4c9fcf6e28a26811629ee39ae0d4d27aadcea27cc84e", func := "althing/althinglaw01.WireBack", spec := "wireBack", apart := false, narrowed := true }
def WireBackUptoSaid : Prop := wireBackUptoRow.holds Try.pinned (OpenSpec.upto wireBackSpec)

end Rows
end Go.Proofs.Ytimickmlmlihpaa
