/-
  PathJoins: for any two texts and any texts behind the first, the law returns true.
-/
import Derived.Test.YtjbmphkoafkgfaaDoorPathC
import Derived.Test.YtjbmphkoafkgfaaDoorDoor
namespace Go.Proofs.YtjbmphkoafkgfaaDoor.pathJoins
open Go.ChangeShapes Go.WideShapes Go.ChangeAt Go.RowKit
set_option maxRecDepth 20000
set_option linter.unusedVariables false

def T : Ty := .pair .str (.pair .str (.pair (.slice .str) .unit))
theorem walk' (W : World) (hL : laidMetH Tryd.prog Rows.pathJoinsRow.laid W) (hsh : W.ShapedOpen Tryd.prog) (vs : List Value) (el : T.El) (hr : ArgsRd W T vs el) (hf : Fit T el) :
    Calls Tryd.prog 4 vs.toArray W fun e w' => e = .returned (.bool true) ∧ Below W.heap.size W w' := by
  obtain ⟨v, r, cs, rfl, hv, hx, v2, r2, cs2, rfl, hv2, hx2, v3, r3, cs3, rfl, hv3, hx3, rfl⟩ := hr
  obtain rfl : cs = [v] := hv
  obtain rfl : cs2 = [v2] := hv2
  obtain rfl : cs3 = [v3] := hv3
  rw [text_of_rd hx, text_of_rd hx2]
  obtain ⟨a, c, rfl, -, h1, h2, h3⟩ := texts_of_rd hx3
  have hn := hf.2.2.1.1
  exact joins_walk _ _ a c _ W h3 (by have : (Ty.str).bytes = 16 := rfl; rw [this] at hn; unfold reachBytes at hn; omega)

theorem own : ownKnob Tryd.prog.godebug = none := by kernel_rfl
theorem laidOut : laidOutB Tryd.prog = true := by kernel_rfl
set_option maxRecDepth 100000 in
theorem laid_met (os : Os) : laidMet Tryd.prog Rows.pathJoinsRow.laid ((laidWorld os Rows.pathJoinsRow.laid).forCall (fun _ _ => 0) ⟨#[], #[.string ByteArray.empty, .string ByteArray.empty, .slice none 0 0], []⟩).memory :=
  laidMet_of_run' 8 (by kernel_rfl) (by kernel_rfl)
set_option maxRecDepth 100000 in
theorem reads (os : Os) {H : Type} (enc : TypeId × Value → H) : ∃ places, DataW.whole enc Tryd.prog ((laidWorld os Rows.pathJoinsRow.laid).forCall (fun _ _ => 0) ⟨#[], #[.string ByteArray.empty, .string ByteArray.empty, .slice none 0 0], []⟩).memory Tryd.f4.params.toList Rows.pathJoinsSpec.vars false (#[.string ByteArray.empty, .string ByteArray.empty, .slice none 0 0] : Array Value).toList 8 = some ([.lit (.string []), .lit (.string []), .nil], [], places) :=
  ⟨[], by kernel_rfl⟩

set_option maxRecDepth 100000 in
theorem lifted (os : Os) (started : os.Started) (H : Type) (enc : TypeId × Value → H) (F : Stop.Interp) :
    ReturnsInHanded {} Tryd.checked os 4 .any ((OpenSpec.ofChange Rows.pathJoinsSpec).preRow enc Tryd.prog Tryd.f4 Rows.pathJoinsRow.domain false Rows.pathJoinsRow.laid) (((OpenSpec.ofChange Rows.pathJoinsSpec).at F).post enc Tryd.prog Tryd.f4 false true false false) := by
  obtain ⟨places, hx⟩ := reads os enc
  refine returnsInHanded_of_row (C := Tryd.checked) (s := (OpenSpec.ofChange Rows.pathJoinsSpec)) own started (by kernel_rfl) Tryd.func4
    (witness_row_at (enc := enc) (C := Tryd.checked) false (laidWorld os Rows.pathJoinsRow.laid) #[.string ByteArray.empty, .string ByteArray.empty, .slice none 0 0] rfl (by kernel_rfl) (by kernel_rfl) (by kernel_rfl)
      (OpenSpec.preRow_of_cond 8 hx (by kernel_rfl) (fun k hk => by cases hk) (by kernel_rfl) (laid_met os))) ?_
  intro W base args ds gs before hval hW _ hcond hsz hL hsh _
  exact law_said_at T (by kernel_rfl) laidOut (by kernel_rfl) rfl rfl Tryd.underlying4 (fun ds h => by
    match ds, h with
    | [d0, d1, d2], _ => rfl) W (walk' W hL hsh) base args ds gs before hval hW hsz

theorem over : Rows.PathJoinsSaid :=
  OpenClaim.holds_of_cond 4 Tryd.f4 rfl rfl rfl rfl rfl rfl rfl ⟨rfl, rfl, rfl, rfl, rfl⟩ rfl rfl rfl rfl rfl (by kernel_rfl) Tryd.func4 (by kernel_rfl)
    (of_decide_eq_true (by kernel_rfl)) (by unfold Func.isWrapper; first | (rw [if_pos (by decide +kernel)]; kernel_rfl) | (rw [if_neg (by decide +kernel)]; exact ⟨rfl, rfl⟩))
    (fun os started H enc _ F => by rw [OpenClaim.pre_eq_preRow]; exact lifted os started H enc F)

theorem bare (f : FuncId) (fn : Func) (hf : Tryd.pinned.checked.prog.funcNamed "althing/althinglaw02.PathJoins" = some f) (hfn : Tryd.pinned.checked.prog.funcs[f]? = some fn) :
    false = Tryd.pinned.checked.prog.looks [] ∧ ∀ (j : Nat) t, fn.params[j]? = some t → Tryd.pinned.checked.prog.wantsStandIn t = false := by
  obtain rfl : f = 4 := Option.some.inj ((show Tryd.prog.funcNamed "althing/althinglaw02.PathJoins" = some 4 by kernel_rfl).symm.trans hf) |>.symm
  obtain rfl : fn = Tryd.f4 := (Option.some.inj (Tryd.func4.symm.trans hfn)).symm
  refine ⟨by kernel_rfl, fun j t ht => ?_⟩
  have h : Tryd.f4.params.toList.all (fun t => !(Tryd.prog.wantsStandIn t)) = true := by kernel_rfl
  have h1 := List.all_eq_true.1 h t (by simpa using Array.mem_of_getElem? ht)
  have h2 : Tryd.prog.wantsStandIn t = false := by simpa using h1
  exact h2

theorem proved : Rows.PathJoinsCardSaid :=
  Claim7.holds_tied_plain_at .later [] _ _ _ _ over (fun _ h => by cases h) (by kernel_rfl) (fun _ h => by cases h) pathJoins_row_tie rfl ⟨rfl, rfl⟩ (by kernel_rfl) rfl bare (by kernel_rfl)
#print axioms proved
end Go.Proofs.YtjbmphkoafkgfaaDoor.pathJoins
