/-
  WatchOnce: a watch leaves one event, at the first effect that matches it, and none at later ones: for any path, kind and effects the law returns true.
-/
import Derived.Test.YtjnbflhpboheiaaDoorWtQ
import Derived.Test.YtjnbflhpboheiaaDoorWtA
import Derived.Test.YtjnbflhpboheiaaDoorDoor
namespace Go.Proofs.YtjnbflhpboheiaaDoor.watchOnce
open Go.ChangeShapes Go.WideShapes Go.ChangeAt Go.RowKit
set_option maxRecDepth 20000
set_option linter.unusedVariables false

def T : Ty := .pair .str (.pair (.int .i64) (.pair (.slice TEf) .unit))
theorem walk' (W : World) (hL : laidMetH Tryd.prog Rows.watchOnceRow.laid W) (hsh : W.ShapedOpen Tryd.prog) (vs : List Value) (el : T.El) (hr : ArgsRd W T vs el) (hf : Fit T el) :
    Calls Tryd.prog 3 vs.toArray W fun e w' => e = .returned (.bool true) ∧ Below W.heap.size W w' := by
  obtain ⟨v, r, cs, rfl, hv, hx, v2, r2, cs2, rfl, hv2, hx2, v3, r3, cs3, rfl, hv3, hx3, rfl⟩ := hr
  obtain rfl : cs = [v] := hv
  obtain rfl : cs2 = [v2] := hv2
  obtain rfl : cs3 = [v3] := hv3
  obtain ⟨e1, -⟩ := hx
  obtain ⟨e2, -⟩ := hx2
  simp only [List.cons.injEq, and_true] at e1 e2
  subst e1; subst e2
  obtain ⟨a, c, rfl, h3⟩ := effs_of_rd hx3
  have hn := hf.2.2.1.1
  exact once_walk _ _ a c _ W h3 (by rw [List.length_map]; have : TEf.bytes = 24 := rfl; rw [this] at hn; unfold reachBytes at hn; omega)

theorem own : ownKnob Tryd.prog.godebug = none := by kernel_rfl
theorem laidOut : laidOutB Tryd.prog = true := by kernel_rfl
set_option maxRecDepth 100000 in
theorem laid_met (os : Os) : laidMet Tryd.prog Rows.watchOnceRow.laid ((laidWorld os Rows.watchOnceRow.laid).forCall (fun _ _ => 0) ⟨#[], #[.string ByteArray.empty, .int .i64 0, .slice none 0 0], []⟩).memory :=
  laidMet_of_run' 8 (by kernel_rfl) (by kernel_rfl)
set_option maxRecDepth 100000 in
theorem reads (os : Os) {H : Type} (enc : TypeId × Value → H) : ∃ places, DataW.whole enc Tryd.prog ((laidWorld os Rows.watchOnceRow.laid).forCall (fun _ _ => 0) ⟨#[], #[.string ByteArray.empty, .int .i64 0, .slice none 0 0], []⟩).memory Tryd.f3.params.toList Rows.watchOnceSpec.vars false (#[.string ByteArray.empty, .int .i64 0, .slice none 0 0] : Array Value).toList 8 = some ([.lit (.string []), .lit (.int .i64 0), .nil], [], places) :=
  ⟨[], by kernel_rfl⟩

set_option maxRecDepth 100000 in
theorem lifted (os : Os) (started : os.Started) (H : Type) (enc : TypeId × Value → H) (F : Stop.Interp) :
    ReturnsInHanded {} Tryd.checked os 3 .any ((OpenSpec.ofChange Rows.watchOnceSpec).preRow enc Tryd.prog Tryd.f3 Rows.watchOnceRow.domain false Rows.watchOnceRow.laid) (((OpenSpec.ofChange Rows.watchOnceSpec).at F).post enc Tryd.prog Tryd.f3 false true false false) := by
  obtain ⟨places, hx⟩ := reads os enc
  refine returnsInHanded_of_row (C := Tryd.checked) (s := (OpenSpec.ofChange Rows.watchOnceSpec)) own started (by kernel_rfl) Tryd.func3
    (witness_row_at (enc := enc) (C := Tryd.checked) false (laidWorld os Rows.watchOnceRow.laid) #[.string ByteArray.empty, .int .i64 0, .slice none 0 0] rfl (by kernel_rfl) (by kernel_rfl) (by kernel_rfl)
      (OpenSpec.preRow_of_cond 8 hx (by kernel_rfl) (fun k hk => by cases hk) (by kernel_rfl) (laid_met os))) ?_
  intro W base args ds gs before hval hW _ hcond hsz hL hsh _
  exact law_said_at T (by kernel_rfl) laidOut (by kernel_rfl) rfl rfl Tryd.underlying4 (fun ds h => by
    match ds, h with
    | [d0, d1, d2], _ => rfl) W (walk' W hL hsh) base args ds gs before hval hW hsz

theorem over : Rows.WatchOnceSaid :=
  OpenClaim.holds_of_cond 3 Tryd.f3 rfl rfl rfl rfl rfl rfl rfl ⟨rfl, rfl, rfl, rfl, rfl⟩ rfl rfl rfl rfl rfl (by kernel_rfl) Tryd.func3 (by kernel_rfl)
    (of_decide_eq_true (by kernel_rfl)) (by unfold Func.isWrapper; first | (rw [if_pos (by decide +kernel)]; kernel_rfl) | (rw [if_neg (by decide +kernel)]; exact ⟨rfl, rfl⟩))
    (fun os started H enc _ F => by rw [OpenClaim.pre_eq_preRow]; exact lifted os started H enc F)

theorem bare (f : FuncId) (fn : Func) (hf : Tryd.pinned.checked.prog.funcNamed "althing/althinglaw16.WatchOnce" = some f) (hfn : Tryd.pinned.checked.prog.funcs[f]? = some fn) :
    false = Tryd.pinned.checked.prog.looks [] ∧ ∀ (j : Nat) t, fn.params[j]? = some t → Tryd.pinned.checked.prog.wantsStandIn t = false := by
  obtain rfl : f = 3 := Option.some.inj ((show Tryd.prog.funcNamed "althing/althinglaw16.WatchOnce" = some 3 by kernel_rfl).symm.trans hf) |>.symm
  obtain rfl : fn = Tryd.f3 := (Option.some.inj (Tryd.func3.symm.trans hfn)).symm
  refine ⟨by kernel_rfl, fun j t ht => ?_⟩
  have h : Tryd.f3.params.toList.all (fun t => !(Tryd.prog.wantsStandIn t)) = true := by kernel_rfl
  have h1 := List.all_eq_true.1 h t (by simpa using Array.mem_of_getElem? ht)
  have h2 : Tryd.prog.wantsStandIn t = false := by simpa using h1
  exact h2

theorem proved : Rows.WatchOnceCardSaid :=
  Claim7.holds_tied_plain_at .later [] _ _ _ _ over (fun _ h => by cases h) (by kernel_rfl) (fun _ h => by cases h) watchOnce_row_tie rfl ⟨rfl, rfl⟩ (by kernel_rfl) rfl bare (by kernel_rfl)
#print axioms proved
end Go.Proofs.YtjnbflhpboheiaaDoor.watchOnce
