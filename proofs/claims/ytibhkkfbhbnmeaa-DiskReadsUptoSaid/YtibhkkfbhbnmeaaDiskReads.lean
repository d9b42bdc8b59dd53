/-
  DiskReads: what is not there, or has no name, is told so: for every argument of at most 1048576 values.
-/
import Derived.Test.YtibhkkfbhbnmeaaDr4
namespace Go.Proofs.Ytibhkkfbhbnmeaa.diskReads
open Go.RowKit
set_option maxRecDepth 20000
set_option linter.unusedVariables false

def T : Ty := .pair (.slice .str) (.pair .str .unit)
theorem walk' (W : World) (vs : List Value) (el : T.El) (hr : ArgsRd W T vs el) (hf : Blk T el ≤ 1048576) : Calls Try.prog 3 vs.toArray W fun e w' => e = .returned (.bool true) ∧ Below W.heap.size W w' := by
  obtain ⟨v1, r1, cs1, rfl, hv1, hx1, v2, r2, cs2, rfl, hv2, hx2, rfl⟩ := hr
  obtain rfl : cs1 = [v1] := hv1
  obtain ⟨rfl, -⟩ := hx2
  obtain rfl : v2 = .string ⟨el.2.1.toArray⟩ := by simpa [ValOf, eq_comm] using hv2
  obtain ⟨a, c, rfl, -, -, -, hrow⟩ := names_of_rd hx1
  have m1 : Blk (.slice .str) el.1 + Blk .str el.2.1 ≤ Blk T el := by
    show _ ≤ Blk (.slice .str) el.1 + (Blk .str el.2.1 + _)
    omega
  have m2 := blk_slice (e := .str) (fun x => by simp only [Blk]; omega) el.1
  refine reads_walk a c el.1 el.2.1 W hrow (by omega) (fun s hs => ?_) ?_
  · have m3 := blk_mem (e := .str) hs
    have m4 : Blk .str s = s.length + 1 := rfl
    omega
  · have m4 : Blk .str el.2.1 = el.2.1.length + 1 := rfl
    omega

theorem own : ownKnob Try.prog.godebug = none := by kernel_rfl
theorem laidOut : laidOutB Try.prog = true := by kernel_rfl

set_option maxRecDepth 100000 in
theorem lifted (os : Os) (started : os.Started) (H : Type) (enc : TypeId × Value → H) (F : Stop.Interp) :
    ReturnsInHanded {} Try.checked os 3 .any ((Rows.OpenSpec.upto Rows.diskReadsSpec).pre6 enc Try.prog Try.f3 Rows.diskReadsUptoRow.domain false) (((Rows.OpenSpec.upto Rows.diskReadsSpec).at F).post enc Try.prog Try.f3 false true false false) := by
  refine returnsInHanded_of_cond (C := Try.checked) (s := Rows.OpenSpec.upto Rows.diskReadsSpec) (k := Rows.uptoSmall) rfl own started (by kernel_rfl) Try.func3
    (OpenSpec.witness (enc := enc) (C := Try.checked) (s := Rows.OpenSpec.upto Rows.diskReadsSpec) (k := Rows.uptoSmall) rfl false ⟨#[], #[.slice none 0 0, .string ByteArray.empty], []⟩ 16 (by kernel_rfl) (by kernel_rfl) (by kernel_rfl)
      (x := ([.nil, .lit (.string [])], [], [])) (by kernel_rfl) rfl (by kernel_rfl)) ?_
  intro W base args ds gs before hval hW _ hk _
  exact law_upto T (by kernel_rfl) laidOut (by kernel_rfl) rfl rfl Try.underlying4 (fun ds h => by
    match ds, h with
    | [d0, d1], _ => rfl) walk' W base args ds gs before hval hW hk

theorem over : Rows.diskReadsUptoRow.holds Try.pinned (Rows.OpenSpec.upto Rows.diskReadsSpec) :=
  OpenClaim.holds_of_cond 3 Try.f3 rfl rfl rfl rfl rfl rfl rfl ⟨rfl, rfl, rfl, rfl, rfl⟩ rfl rfl rfl rfl rfl (by kernel_rfl) Try.func3 (by kernel_rfl)
    (of_decide_eq_true (by kernel_rfl)) (by unfold Func.isWrapper; first | (rw [if_pos (by decide +kernel)]; kernel_rfl) | (rw [if_neg (by decide +kernel)]; exact ⟨rfl, rfl⟩))
    (fun os started H enc _ F => lifted os started H enc F)

theorem proved : Rows.DiskReadsUptoSaid := over
#print axioms proved
end Go.Proofs.Ytibhkkfbhbnmeaa.diskReads
