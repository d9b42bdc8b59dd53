/-
  LeaseSafe: a client and a server whose clocks stay within the drift: the server finds the session due only when the client's holder is valid no more: for every argument.
-/
import Derived.Test.YtebmhjphnlgojaaLk5
namespace Go.Proofs.Ytebmhjphnlgojaa.leaseSafe
open Go.RowKit
set_option maxRecDepth 20000
set_option linter.unusedVariables false

def T : Ty := .pair (.pair (.int .i64) (.pair (.int .i64) .unit)) (.pair (.int .i64) (.pair (.slice TSt) .unit))
theorem walk' (W : World) (vs : List Value) (el : T.El) (hr : ArgsRd W T vs el) (hf : Fit T el) : Calls Try.prog 6 vs.toArray W fun e w' => e = .returned (.bool true) ∧ Below W.heap.size W w' := by
  obtain ⟨v1, r1, cs1, rfl, hv1, hx1, v2, r2, cs2, rfl, hv2, hx2, v3, r3, cs3, rfl, hv3, hx3, rfl⟩ := hr
  obtain ⟨c1, c2, rfl, -, ⟨rfl, -⟩, c3, c4, rfl, -, ⟨rfl, -⟩, rfl⟩ := hx1
  have hv' : v1 = .agg _ := hv1
  obtain ⟨rfl, -⟩ := hx2
  obtain rfl : v2 = .int .i64 el.2.1 := by simpa [ValOf, eq_comm] using hv2
  obtain rfl : cs3 = [v3] := hv3
  obtain ⟨a, c, rfl, hrow⟩ := steps_of hx3
  rw [hv']
  exact safe_walk el.1.1 el.1.2.1 el.2.1 a c el.2.2.1 W hrow

theorem own : ownKnob Try.prog.godebug = none := by kernel_rfl
theorem laidOut : laidOutB Try.prog = true := by kernel_rfl

set_option maxRecDepth 100000 in
theorem lifted (os : Os) (started : os.Started) (H : Type) (enc : TypeId × Value → H) :
    ReturnsInHanded {} Try.checked os 6 .any (Rows.leaseSafeSpec.pre6 enc Try.prog Try.f6 Rows.leaseSafeRow.domain false) (Rows.leaseSafeSpec.post enc Try.prog Try.f6 false true false false) := by
  refine returnsInHanded_of_change_sized (C := Try.checked) own started (by kernel_rfl) Try.func6
    (ChangeSpec.witness6 (enc := enc) (C := Try.checked) false ⟨#[], #[.agg #[.int .i64 0, .int .i64 0], .int .i64 0, .slice none 0 0], []⟩ 16 (by kernel_rfl) (by kernel_rfl) (by kernel_rfl) (by kernel_rfl)) ?_
  intro W base args ds gs before hval hW _ hsz _
  exact law_said T (by kernel_rfl) laidOut (by kernel_rfl) rfl rfl Try.underlying4 (fun ds h => by
    match ds, h with
    | [d0, d1, d2], _ => rfl) walk' W base args ds gs before hval hW hsz

theorem over : Rows.leaseSafeRow.holds Try.pinned (OpenSpec.ofChange Rows.leaseSafeSpec) :=
  OpenClaim.holds_of_wide 6 Try.f6 rfl rfl rfl rfl rfl rfl rfl ⟨rfl, rfl, rfl, rfl, rfl⟩ rfl rfl rfl rfl rfl (by kernel_rfl) Try.func6 (by kernel_rfl)
    (of_decide_eq_true (by kernel_rfl)) (by unfold Func.isWrapper; first | (rw [if_pos (by decide +kernel)]; kernel_rfl) | (rw [if_neg (by decide +kernel)]; exact ⟨rfl, rfl⟩))
    (fun os started H enc _ => lifted os started H enc)

theorem proved : Rows.LeaseSafeSaid := over
#print axioms proved
end Go.Proofs.Ytebmhjphnlgojaa.leaseSafe
