/-
  SessionNonce: at any time no two live sessions of a home have one nonce, none has a number that was given ahead of it to another one, and no home has more than 64: for every argument of at most 1048576 values.
-/
import Derived.Test.YtdieomhddnhfoaaTb8
namespace Go.Proofs.Ytdieomhddnhfoaa.sessionNonce
open Go.RowKit
set_option maxRecDepth 20000
set_option linter.unusedVariables false

def T : Ty := .pair (.slice TNq) .unit
theorem walk' (W : World) (vs : List Value) (el : T.El) (hr : ArgsRd W T vs el) (hf : Blk T el ≤ 1048576) : Calls Try.prog 5 vs.toArray W fun e w' => e = .returned (.bool true) ∧ Below W.heap.size W w' := by
  obtain ⟨v2, r2, cs2, rfl, hv2, hx2, rfl⟩ := hr
  obtain rfl : cs2 = [v2] := hv2
  have m1 : Blk (.slice TNq) el.1 ≤ Blk T el := by
    show _ ≤ Blk (.slice TNq) el.1 + _
    omega
  have m2 := blk_slice (e := TNq) (fun x => by show 1 ≤ 1 + _; omega) el.1
  obtain ⟨a, c, os, rfl, hl, hr, ho⟩ := nscript_of hx2 (fun x hx => by
    have m3 := blk_mem (e := TNq) hx
    have m4 : Blk (.slice TKey) x.2.2.2.2.2.2.1 ≤ Blk TNq x := by
      show _ ≤ Blk (.int .i64) x.1 + (Blk (.int .i64) x.2.1 + (Blk (.int .i64) x.2.2.1 + (Blk (.int .i64) x.2.2.2.1 + (Blk .str x.2.2.2.2.1 + (Blk (.slice (.int .u8)) x.2.2.2.2.2.1 + (Blk (.slice TKey) x.2.2.2.2.2.2.1 + _))))))
      omega
    have n1 := blk_slice (e := TKey) (fun y => by show 1 ≤ (List.length y.1 + 1) + _; omega) x.2.2.2.2.2.2.1
    omega)
  exact nonce_walk a c os W hr ho (by rw [hl]; omega)

theorem own : ownKnob Try.prog.godebug = none := by kernel_rfl
theorem laidOut : laidOutB Try.prog = true := by kernel_rfl

set_option maxRecDepth 100000 in
theorem lifted (os : Os) (started : os.Started) (H : Type) (enc : TypeId × Value → H) (F : Stop.Interp) :
    ReturnsInHanded {} Try.checked os 5 .any ((Rows.OpenSpec.upto Rows.sessionNonceSpec).pre6 enc Try.prog Try.f5 Rows.sessionNonceUptoRow.domain false) (((Rows.OpenSpec.upto Rows.sessionNonceSpec).at F).post enc Try.prog Try.f5 false true false false) := by
  refine returnsInHanded_of_cond (C := Try.checked) (s := Rows.OpenSpec.upto Rows.sessionNonceSpec) (k := Rows.uptoSmall) rfl own started (by kernel_rfl) Try.func5
    (OpenSpec.witness (enc := enc) (C := Try.checked) (s := Rows.OpenSpec.upto Rows.sessionNonceSpec) (k := Rows.uptoSmall) rfl false ⟨#[], #[.slice none 0 0], []⟩ 16 (by kernel_rfl) (by kernel_rfl) (by kernel_rfl)
      (x := ([.nil], [], [])) (by kernel_rfl) rfl (by kernel_rfl)) ?_
  intro W base args ds gs before hval hW _ hk _
  exact law_upto T (by kernel_rfl) laidOut (by kernel_rfl) rfl rfl Try.underlying4 (fun ds h => by
    match ds, h with
    | [d0], _ => rfl) walk' W base args ds gs before hval hW hk

theorem over : Rows.sessionNonceUptoRow.holds Try.pinned (Rows.OpenSpec.upto Rows.sessionNonceSpec) :=
  OpenClaim.holds_of_cond 5 Try.f5 rfl rfl rfl rfl rfl rfl rfl ⟨rfl, rfl, rfl, rfl, rfl⟩ rfl rfl rfl rfl rfl (by kernel_rfl) Try.func5 (by kernel_rfl)
    (of_decide_eq_true (by kernel_rfl)) (by unfold Func.isWrapper; first | (rw [if_pos (by decide +kernel)]; kernel_rfl) | (rw [if_neg (by decide +kernel)]; exact ⟨rfl, rfl⟩))
    (fun os started H enc _ F => lifted os started H enc F)

theorem proved : Rows.SessionNonceUptoSaid := over
#print axioms proved
end Go.Proofs.Ytdieomhddnhfoaa.sessionNonce
