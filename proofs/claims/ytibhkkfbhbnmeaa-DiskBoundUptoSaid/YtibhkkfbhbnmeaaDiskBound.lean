/-
  DiskBound: however a disk is used, what all files have together is what Used tells, is never above the capacity, and no file has more safe bytes than bytes: for every argument of at most 1048576 values.
-/
import Derived.Test.YtibhkkfbhbnmeaaDskW
namespace Go.Proofs.Ytibhkkfbhbnmeaa.diskBound
open Go.RowKit
set_option maxRecDepth 20000
set_option linter.unusedVariables false

def T : Ty := .pair (.int .i64) (.pair (.slice TOp) .unit)
theorem walk' (W : World) (vs : List Value) (el : T.El) (hr : ArgsRd W T vs el) (hf : Blk T el ≤ 1048576) : Calls Try.prog 4 vs.toArray W fun e w' => e = .returned (.bool true) ∧ Below W.heap.size W w' := by
  obtain ⟨v1, r1, cs1, rfl, hv1, hx1, v2, r2, cs2, rfl, hv2, hx2, rfl⟩ := hr
  obtain ⟨rfl, -⟩ := hx1
  obtain rfl : v1 = .int .i64 el.fst := by simpa [ValOf, eq_comm] using hv1
  obtain rfl : cs2 = [v2] := hv2
  obtain ⟨a, c, os, rfl, hl, hr, ho, hs, -, -⟩ := script_of hx2
  have m1 : Blk (.slice TOp) el.2.1 ≤ Blk T el := by
    show _ ≤ Blk (.int .i64) el.1 + (Blk (.slice TOp) el.2.1 + _)
    omega
  have m2 := blk_slice (e := TOp) (fun x => by show 1 ≤ 1 + _; omega) el.2.1
  refine bound_walk el.fst a c os W hr ho (fun o h => ?_) (by rw [hl]; omega)
  obtain ⟨x, hx, e1, e2, e3⟩ := hs o h
  have m3 := blk_mem (e := TOp) hx
  have m4 : Blk (.slice (.int .u8)) x.2.2.2.1 + Blk (.slice .str) x.2.2.2.2.1 + Blk (.slice (.int .i64)) x.2.2.2.2.2.1 ≤ Blk TOp x := by
    show _ ≤ Blk (.int .i64) x.1 + (Blk .str x.2.1 + (Blk .str x.2.2.1 + (Blk (.slice (.int .u8)) x.2.2.2.1 + (Blk (.slice .str) x.2.2.2.2.1 + (Blk (.slice (.int .i64)) x.2.2.2.2.2.1 + _)))))
    omega
  have n1 := blk_slice (e := .int .u8) (fun x => Nat.le_refl _) x.2.2.2.1
  have n2 := blk_slice (e := .str) (fun x => by simp only [Blk]; omega) x.2.2.2.2.1
  have n3 := blk_slice (e := .int .i64) (fun x => Nat.le_refl _) x.2.2.2.2.2.1
  exact ⟨by rw [e1]; omega, by rw [e2]; omega, by rw [e3]; omega⟩

theorem own : ownKnob Try.prog.godebug = none := by kernel_rfl
theorem laidOut : laidOutB Try.prog = true := by kernel_rfl

set_option maxRecDepth 100000 in
theorem lifted (os : Os) (started : os.Started) (H : Type) (enc : TypeId × Value → H) (F : Stop.Interp) :
    ReturnsInHanded {} Try.checked os 4 .any ((Rows.OpenSpec.upto Rows.diskBoundSpec).pre6 enc Try.prog Try.f4 Rows.diskBoundUptoRow.domain false) (((Rows.OpenSpec.upto Rows.diskBoundSpec).at F).post enc Try.prog Try.f4 false true false false) := by
  refine returnsInHanded_of_cond (C := Try.checked) (s := Rows.OpenSpec.upto Rows.diskBoundSpec) (k := Rows.uptoSmall) rfl own started (by kernel_rfl) Try.func4
    (OpenSpec.witness (enc := enc) (C := Try.checked) (s := Rows.OpenSpec.upto Rows.diskBoundSpec) (k := Rows.uptoSmall) rfl false ⟨#[], #[.int .i64 0, .slice none 0 0], []⟩ 16 (by kernel_rfl) (by kernel_rfl) (by kernel_rfl)
      (x := ([.lit (.int .i64 0), .nil], [], [])) (by kernel_rfl) rfl (by kernel_rfl)) ?_
  intro W base args ds gs before hval hW _ hk _
  exact law_upto T (by kernel_rfl) laidOut (by kernel_rfl) rfl rfl Try.underlying4 (fun ds h => by
    match ds, h with
    | [d0, d1], _ => rfl) walk' W base args ds gs before hval hW hk

theorem over : Rows.diskBoundUptoRow.holds Try.pinned (Rows.OpenSpec.upto Rows.diskBoundSpec) :=
  OpenClaim.holds_of_cond 4 Try.f4 rfl rfl rfl rfl rfl rfl rfl ⟨rfl, rfl, rfl, rfl, rfl⟩ rfl rfl rfl rfl rfl (by kernel_rfl) Try.func4 (by kernel_rfl)
    (of_decide_eq_true (by kernel_rfl)) (by unfold Func.isWrapper; first | (rw [if_pos (by decide +kernel)]; kernel_rfl) | (rw [if_neg (by decide +kernel)]; exact ⟨rfl, rfl⟩))
    (fun os started H enc _ F => lifted os started H enc F)

theorem proved : Rows.DiskBoundUptoSaid := over
#print axioms proved
end Go.Proofs.Ytibhkkfbhbnmeaa.diskBound
