/-
  PathSuffixes: for any text and any number, the law returns true.
-/
import Derived.Test.YtjbmphkoafkgfaaDoorPathS
import Derived.Test.YtjbmphkoafkgfaaDoorDoor
namespace Go.Proofs.YtjbmphkoafkgfaaDoor
open Go.RowKit

set_option maxRecDepth 20000 in
theorem suffixes_walk (p : ByteArray) (n : Int) (w : World) (ht : Tab w) : Calls Tryd.prog 6 #[.string p, .int .i64 n] w fun e w' => e = .returned (.bool true) ∧ Below w.heap.size w w' := by
  have HT := hid ht
  clear ht
  go_enter Tryd.func6, Tryd.ntmps6
  go_wp2_with fail
  refine (path_suffix p n _ HT.out).mono ?_
  rintro e w1 ⟨rfl, hb⟩
  have HB1 := hid hb
  clear hb HT
  go_wp2_with fail
  refine (ref_suffix p n _).mono ?_
  rintro e w2 ⟨rfl, hb⟩
  have HB2 := hid (below_step HB1.out HB1.out.size hb)
  clear hb HB1
  unfold txt
  go_wp2_with fail
  refine (awake02 _).mono ?_
  rintro e w3 ⟨rfl, hb⟩
  have HB3 := hid (below_step HB2.out HB2.out.size hb)
  clear hb HB2
  go_wp2_with fail
  refine (told_ok (suffixP (bl p) n) _).mono ?_
  rintro e w4 ⟨rfl, rfl⟩
  go_wp2_with fail
  go_ret
  exact ⟨rfl, HB3.out⟩

/-- The table, out of what the row lists. -/
theorem gPow : Tryd.prog.globalNamed "internal/strconv.uint64pow10" = some 1 := by kernel_rfl
theorem laid_tail {P : Program} {W : World} {x : String × DataW Unit} {l : List (String × DataW Unit)} (h : laidMet P (x :: l) W) : laidMet P l W := by
  obtain ⟨ps, hv, hnd, hrows⟩ := h
  obtain ⟨n, d⟩ := x
  obtain ⟨g, t, cs, fuel, p, q, _, _, _, _, hq, rfl⟩ := hv
  exact ⟨q, hq, List.Nodup.sublist (List.sublist_append_right _ _) hnd, fun b off hm => hrows b off (List.mem_append_right _ hm)⟩
theorem tab_of_laid {W : World} (h : laidMet Tryd.prog Rows.pathSuffixesRow.laid W) : Tab W :=
  Lib.tabIs_of_head (t := 93) (e := 76) gPow (by kernel_rfl) Tryd.underlying93 Tryd.underlying76 (by kernel_rfl) (by kernel_rfl) (laid_tail (laid_tail h))
namespace pathSuffixes
open Go.ChangeShapes Go.WideShapes Go.ChangeAt Go.RowKit
set_option maxRecDepth 20000
set_option linter.unusedVariables false

def T : Ty := .pair .str (.pair (.int .i64) .unit)
theorem walk' (W : World) (hL : laidMetH Tryd.prog Rows.pathSuffixesRow.laid W) (hsh : W.ShapedOpen Tryd.prog) (vs : List Value) (el : T.El) (hr : ArgsRd W T vs el) (hf : Fit T el) :
    Calls Tryd.prog 6 vs.toArray W fun e w' => e = .returned (.bool true) ∧ Below W.heap.size W w' := by
  obtain ⟨v, r, cs, rfl, hv, hx, v2, r2, cs2, rfl, hv2, hx2, rfl⟩ := hr
  obtain rfl : cs = [v] := hv
  obtain rfl : cs2 = [v2] := hv2
  rw [text_of_rd hx]
  obtain ⟨h1, h2⟩ := hx2
  have h1' : v2 = .int .i64 el.2.1 := by simpa using h1
  rw [h1']
  exact suffixes_walk _ _ W (tab_of_laid hL)

theorem own : ownKnob Tryd.prog.godebug = none := by kernel_rfl
theorem laidOut : laidOutB Tryd.prog = true := by kernel_rfl
set_option maxRecDepth 100000 in
theorem laid_met (os : Os) : laidMet Tryd.prog Rows.pathSuffixesRow.laid ((laidWorld os Rows.pathSuffixesRow.laid).forCall (fun _ _ => 0) ⟨#[], #[.string ByteArray.empty, .int .i64 0], []⟩).memory :=
  laidMet_of_run' 8 (by kernel_rfl) (by kernel_rfl)
set_option maxRecDepth 100000 in
theorem reads (os : Os) {H : Type} (enc : TypeId × Value → H) : ∃ places, DataW.whole enc Tryd.prog ((laidWorld os Rows.pathSuffixesRow.laid).forCall (fun _ _ => 0) ⟨#[], #[.string ByteArray.empty, .int .i64 0], []⟩).memory Tryd.f6.params.toList Rows.pathSuffixesSpec.vars false (#[.string ByteArray.empty, .int .i64 0] : Array Value).toList 8 = some ([.lit (.string []), .lit (.int .i64 0)], [], places) :=
  ⟨[], by kernel_rfl⟩

set_option maxRecDepth 100000 in
theorem lifted (os : Os) (started : os.Started) (H : Type) (enc : TypeId × Value → H) (F : Stop.Interp) :
    ReturnsInHanded {} Tryd.checked os 6 .any ((OpenSpec.ofChange Rows.pathSuffixesSpec).preRow enc Tryd.prog Tryd.f6 Rows.pathSuffixesRow.domain false Rows.pathSuffixesRow.laid) (((OpenSpec.ofChange Rows.pathSuffixesSpec).at F).post enc Tryd.prog Tryd.f6 false true false false) := by
  obtain ⟨places, hx⟩ := reads os enc
  refine returnsInHanded_of_row (C := Tryd.checked) (s := (OpenSpec.ofChange Rows.pathSuffixesSpec)) own started (by kernel_rfl) Tryd.func6
    (witness_row_at (enc := enc) (C := Tryd.checked) false (laidWorld os Rows.pathSuffixesRow.laid) #[.string ByteArray.empty, .int .i64 0] rfl (by kernel_rfl) (by kernel_rfl) (by kernel_rfl)
      (OpenSpec.preRow_of_cond 8 hx (by kernel_rfl) (fun k hk => by cases hk) (by kernel_rfl) (laid_met os))) ?_
  intro W base args ds gs before hval hW _ hcond hsz hL hsh _
  exact law_said_at T (by kernel_rfl) laidOut (by kernel_rfl) rfl rfl Tryd.underlying4 (fun ds h => by
    match ds, h with
    | [d0, d1], _ => rfl) W (walk' W hL hsh) base args ds gs before hval hW hsz

theorem over : Rows.PathSuffixesSaid :=
  OpenClaim.holds_of_cond 6 Tryd.f6 rfl rfl rfl rfl rfl rfl rfl ⟨rfl, rfl, rfl, rfl, rfl⟩ rfl rfl rfl rfl rfl (by kernel_rfl) Tryd.func6 (by kernel_rfl)
    (of_decide_eq_true (by kernel_rfl)) (by unfold Func.isWrapper; first | (rw [if_pos (by decide +kernel)]; kernel_rfl) | (rw [if_neg (by decide +kernel)]; exact ⟨rfl, rfl⟩))
    (fun os started H enc _ F => by rw [OpenClaim.pre_eq_preRow]; exact lifted os started H enc F)

theorem bare (f : FuncId) (fn : Func) (hf : Tryd.pinned.checked.prog.funcNamed "althing/althinglaw02.PathSuffixes" = some f) (hfn : Tryd.pinned.checked.prog.funcs[f]? = some fn) :
    false = Tryd.pinned.checked.prog.looks [] ∧ ∀ (j : Nat) t, fn.params[j]? = some t → Tryd.pinned.checked.prog.wantsStandIn t = false := by
  obtain rfl : f = 6 := Option.some.inj ((show Tryd.prog.funcNamed "althing/althinglaw02.PathSuffixes" = some 6 by kernel_rfl).symm.trans hf) |>.symm
  obtain rfl : fn = Tryd.f6 := (Option.some.inj (Tryd.func6.symm.trans hfn)).symm
  refine ⟨by kernel_rfl, fun j t ht => ?_⟩
  have h : Tryd.f6.params.toList.all (fun t => !(Tryd.prog.wantsStandIn t)) = true := by kernel_rfl
  have h1 := List.all_eq_true.1 h t (by simpa using Array.mem_of_getElem? ht)
  have h2 : Tryd.prog.wantsStandIn t = false := by simpa using h1
  exact h2

theorem proved : Rows.PathSuffixesCardSaid :=
  Claim7.holds_tied_plain_at .later [] _ _ _ _ over (fun _ h => by cases h) (by kernel_rfl) (fun _ h => by cases h) pathSuffixes_row_tie rfl ⟨rfl, rfl⟩ (by kernel_rfl) rfl bare (by kernel_rfl)
#print axioms proved
end pathSuffixes
end Go.Proofs.YtjbmphkoafkgfaaDoor
