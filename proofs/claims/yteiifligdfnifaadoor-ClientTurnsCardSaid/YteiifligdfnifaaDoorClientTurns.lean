/-
  ClientTurns: a client that is not answered goes through all its servers in turn: for any configuration and any list of Busys the law returns true.
-/
import Derived.Test.YteiifligdfnifaaDoorCld
import Derived.Test.YteiifligdfnifaaDoorTCfg
import Derived.Test.YteiifligdfnifaaDoorDoorE
namespace Go.Proofs.YteiifligdfnifaaDoor.clientTurns
open Go.ChangeShapes Go.WideShapes Go.ChangeAt Go.RowKit
set_option maxRecDepth 20000
set_option linter.unusedVariables false

def T : Ty := .pair TCf (.pair (.slice .bool) .unit)
theorem walk' (W : World) (hL : laidMetH Tryd.prog Rows.clientTurnsRow.laid W) (hsh : W.ShapedOpen Tryd.prog) (vs : List Value) (el : T.El) (hr : ArgsRd W T vs el) (hf : Fit T el) :
    Calls Tryd.prog 3 vs.toArray W fun e w' => e = .returned (.bool true) ∧ Below W.heap.size W w' := by
  obtain ⟨v, r, cs, rfl, hv, hx, v2, r2, cs2, rfl, hv2, hx2, rfl⟩ := hr
  obtain rfl : cs2 = [v2] := hv2
  obtain ⟨c, rfl, h1, h2, h3⟩ := cfg_of hv hx hf.1
  obtain ⟨a, cap, rfl, -, -, -, hb, -⟩ := rd_slice1 (e := .bool) Value.bool (fun c x h => h) hx2
  have hlen := hf.2.1.1
  unfold reachBytes at hlen
  simp only [Ty.bytes] at hlen
  exact turns_walk c a cap el.2.1 W h1 h2 h3 hb (by omega)

theorem own : ownKnob Tryd.prog.godebug = none := by kernel_rfl
theorem laidOut : laidOutB Tryd.prog = true := by kernel_rfl
set_option maxRecDepth 100000 in
theorem laid_met (os : Os) : laidMet Tryd.prog Rows.clientTurnsRow.laid ((laidWorldE os Rows.clientTurnsRow.laid).forCall (fun _ _ => 0) ⟨#[], #[.agg #[.string ByteArray.empty, .int .i64 0, .int .i64 0, .slice none 0 0, .int .i64 0, .int .i64 0, .int .i64 0], .slice none 0 0], []⟩).memory :=
  laidMet_of_run' 8 (by kernel_rfl) (by kernel_rfl)
set_option maxRecDepth 100000 in
theorem reads (os : Os) {H : Type} (enc : TypeId × Value → H) : ∃ places, DataW.whole enc Tryd.prog ((laidWorldE os Rows.clientTurnsRow.laid).forCall (fun _ _ => 0) ⟨#[], #[.agg #[.string ByteArray.empty, .int .i64 0, .int .i64 0, .slice none 0 0, .int .i64 0, .int .i64 0, .int .i64 0], .slice none 0 0], []⟩).memory Tryd.f3.params.toList Rows.clientTurnsSpec.vars false (#[.agg #[.string ByteArray.empty, .int .i64 0, .int .i64 0, .slice none 0 0, .int .i64 0, .int .i64 0, .int .i64 0], .slice none 0 0] : Array Value).toList 8 = some ([.agg [.lit (.string []), .lit (.int .i64 0), .lit (.int .i64 0), .nil, .lit (.int .i64 0), .agg [.lit (.int .i64 0), .lit (.int .i64 0)]], .nil], [], places) :=
  ⟨[], by kernel_rfl⟩

set_option maxRecDepth 100000 in
theorem lifted (os : Os) (started : os.Started) (H : Type) (enc : TypeId × Value → H) (F : Stop.Interp) :
    ReturnsInHanded {} Tryd.checked os 3 .any ((OpenSpec.ofChange Rows.clientTurnsSpec).preRow enc Tryd.prog Tryd.f3 Rows.clientTurnsRow.domain false Rows.clientTurnsRow.laid) (((OpenSpec.ofChange Rows.clientTurnsSpec).at F).post enc Tryd.prog Tryd.f3 false true false false) := by
  obtain ⟨places, hx⟩ := reads os enc
  refine returnsInHanded_of_row (C := Tryd.checked) (s := (OpenSpec.ofChange Rows.clientTurnsSpec)) own started (by kernel_rfl) Tryd.func3
    (witness_row_at (enc := enc) (C := Tryd.checked) false (laidWorldE os Rows.clientTurnsRow.laid) #[.agg #[.string ByteArray.empty, .int .i64 0, .int .i64 0, .slice none 0 0, .int .i64 0, .int .i64 0, .int .i64 0], .slice none 0 0] rfl (by kernel_rfl) (by kernel_rfl) (by kernel_rfl)
      (OpenSpec.preRow_of_cond 8 hx (by kernel_rfl) (fun k hk => by cases hk) (by kernel_rfl) (laid_met os))) ?_
  intro W base args ds gs before hval hW _ hcond hsz hL hsh _
  exact law_said_at T (by kernel_rfl) laidOut (by kernel_rfl) rfl rfl Tryd.underlying4 (fun ds h => by
    match ds, h with
    | [d0, d1], _ => rfl) W (walk' W hL hsh) base args ds gs before hval hW hsz

theorem over : Rows.ClientTurnsSaid :=
  OpenClaim.holds_of_cond 3 Tryd.f3 rfl rfl rfl rfl rfl rfl rfl ⟨rfl, rfl, rfl, rfl, rfl⟩ rfl rfl rfl rfl rfl (by kernel_rfl) Tryd.func3 (by kernel_rfl)
    (of_decide_eq_true (by kernel_rfl)) (by unfold Func.isWrapper; first | (rw [if_pos (by decide +kernel)]; kernel_rfl) | (rw [if_neg (by decide +kernel)]; exact ⟨rfl, rfl⟩))
    (fun os started H enc _ F => by rw [OpenClaim.pre_eq_preRow]; exact lifted os started H enc F)

theorem bare (f : FuncId) (fn : Func) (hf : Tryd.pinned.checked.prog.funcNamed "althing/althinglaw21.ClientTurns" = some f) (hfn : Tryd.pinned.checked.prog.funcs[f]? = some fn) :
    false = Tryd.pinned.checked.prog.looks [] ∧ ∀ (j : Nat) t, fn.params[j]? = some t → Tryd.pinned.checked.prog.wantsStandIn t = false := by
  obtain rfl : f = 3 := Option.some.inj ((show Tryd.prog.funcNamed "althing/althinglaw21.ClientTurns" = some 3 by kernel_rfl).symm.trans hf) |>.symm
  obtain rfl : fn = Tryd.f3 := (Option.some.inj (Tryd.func3.symm.trans hfn)).symm
  refine ⟨by kernel_rfl, fun j t ht => ?_⟩
  have h : Tryd.f3.params.toList.all (fun t => !(Tryd.prog.wantsStandIn t)) = true := by kernel_rfl
  have h1 := List.all_eq_true.1 h t (by simpa using Array.mem_of_getElem? ht)
  have h2 : Tryd.prog.wantsStandIn t = false := by simpa using h1
  exact h2

theorem proved : Rows.ClientTurnsCardSaid :=
  Claim7.holds_tied_plain_at .later [] _ _ _ _ over (fun _ h => by cases h) (by kernel_rfl) (fun _ h => by cases h) clientTurns_row_tie rfl ⟨rfl, rfl⟩ (by kernel_rfl) rfl bare (by kernel_rfl)
#print axioms proved
end Go.Proofs.YteiifligdfnifaaDoor.clientTurns
