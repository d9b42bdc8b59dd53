/-
  PathOrder: for any text and any two numbers, the law returns true.
-/
import Derived.Test.YtjbmphkoafkgfaaDoorPathSuffixes
import Derived.WalkLawsBesides
namespace Go.Proofs.YtjbmphkoafkgfaaDoor
open Go.RowKit

theorem suffix_some {p t : List UInt8} {n : Int} (h : suffixP p n = some t) : t = p ++ dig10 10 n.toNat ∧ 0 ≤ n ∧ n ≤ 9999999999 := by
  unfold suffixP at h
  cases e : parts p with
  | none => rw [e] at h; cases h
  | some ls =>
    rw [e] at h
    simp only at h
    split at h
    · cases h
    · rename_i hn
      split at h
      · simp only [Option.some.injEq] at h
        exact ⟨h.symm, by omega, by omega⟩
      · cases h
theorem order_facts {p s t : List UInt8} {a b : Int} (ha : suffixP p a = some s) (hb : suffixP p b = some t) : (decide (a < b) = Op.bytesLess s t) ∧ ((a == b) = (s == t)) ∧ s.length = p.length + 10 := by
  obtain ⟨rfl, a0, a1⟩ := suffix_some ha
  obtain ⟨rfl, b0, b1⟩ := suffix_some hb
  have ha' : a.toNat < 10 ^ 10 := by omega
  have hb' : b.toNat < 10 ^ 10 := by omega
  refine ⟨?_, ?_, ?_⟩
  · rw [less_append, Bool.eq_iff_iff, decide_eq_true_eq, dig10_less 10 _ _ ha' hb']
    omega
  · rw [Bool.eq_iff_iff, beq_iff_eq, beq_iff_eq]
    constructor
    · rintro rfl; rfl
    · intro h
      have := dig10_inj ha' hb' (List.append_cancel_left h)
      omega
  · rw [List.length_append, dig10_length]

set_option maxRecDepth 20000 in
set_option maxHeartbeats 1000000 in
theorem order_walk (p : ByteArray) (a b : Int) (w : World) (hp : p.size ≤ 9223372036854775000) (ht : Tab w) : Calls Tryd.prog 7 #[.string p, .int .i64 a, .int .i64 b] w fun e w' => e = .returned (.bool true) ∧ Below w.heap.size w w' := by
  have HT := hid ht
  clear ht
  go_enter Tryd.func7, Tryd.ntmps7
  go_wp2_with fail
  refine (path_suffix p a _ HT.out).mono ?_
  rintro e w1 ⟨rfl, hb⟩
  have HB1 := hid hb
  have HT1 := hid (HT.out.below hb)
  clear hb HT
  go_wp2_with fail
  refine (path_suffix p b _ HT1.out).mono ?_
  rintro e w2 ⟨rfl, hb⟩
  have HB2 := hid (below_step HB1.out HB1.out.size hb)
  clear hb HB1 HT1
  unfold txt
  cases ha : suffixP (bl p) a with
  | none =>
    have HA := hid ha
    clear ha
    go_wp2_with fail
    refine (awake02 _).mono ?_
    rintro e w3 ⟨rfl, hb⟩
    have HB3 := hid (below_step HB2.out HB2.out.size hb)
    clear hb HB2
    go_wp2_with fail
    go_ret
    exact ⟨rfl, HB3.out⟩
  | some s =>
  cases hb : suffixP (bl p) b with
  | none =>
    have HA := hid ha
    have HBB := hid hb
    clear ha hb
    go_wp2_with fail
    refine (awake02 _).mono ?_
    rintro e w3 ⟨rfl, hb⟩
    have HB3 := hid (below_step HB2.out HB2.out.size hb)
    clear hb HB2
    go_wp2_with fail
    go_ret
    exact ⟨rfl, HB3.out⟩
  | some t =>
  obtain ⟨o1, o2, o3⟩ := order_facts ha hb
  rw [bl_length] at o3
  have hsz := size_mk s
  have t1 : Op.bytesLess (ByteArray.mk s.toArray).toList (ByteArray.mk t.toArray).toList = Op.bytesLess s t := by rw [Lib.toList_data, Lib.toList_data]
  have t2 : ((ByteArray.mk s.toArray).toList == (ByteArray.mk t.toArray).toList) = (s == t) := by rw [Lib.toList_data, Lib.toList_data]
  have HA := hid ha
  have HBB := hid hb
  have O1 := hid o1
  have O2 := hid o2
  have T1 := hid t1
  have T2 := hid t2
  clear ha hb o1 o2 t1 t2
  go_wp2_with fail
  refine (awake02 _).mono ?_
  rintro e w3 ⟨rfl, hb⟩
  have HB3 := hid (below_step HB2.out HB2.out.size hb)
  clear hb HB2
  go_wp2_with fail
  go_ret
  exact ⟨rfl, HB3.out⟩
namespace pathOrder
open Go.ChangeShapes Go.WideShapes Go.ChangeAt Go.RowKit
set_option maxRecDepth 20000
set_option linter.unusedVariables false

def T : Ty := .pair .str (.pair (.int .i64) (.pair (.int .i64) .unit))
theorem walk' (W : World) (hL : laidMetH Tryd.prog Rows.pathOrderRow.laid W) (hsh : W.ShapedOpen Tryd.prog) (vs : List Value) (el : T.El) (hr : ArgsRd W T vs el) (hf : Fit T el) :
    Calls Tryd.prog 7 vs.toArray W fun e w' => e = .returned (.bool true) ∧ Below W.heap.size W w' := by
  obtain ⟨v, r, cs, rfl, hv, hx, v2, r2, cs2, rfl, hv2, hx2, v3, r3, cs3, rfl, hv3, hx3, rfl⟩ := hr
  obtain rfl : cs = [v] := hv
  obtain rfl : cs2 = [v2] := hv2
  obtain rfl : cs3 = [v3] := hv3
  have h0 := hf.1
  rw [text_of_rd hx]
  obtain ⟨h1, h2⟩ := hx2
  have h1' : v2 = .int .i64 el.2.1 := by simpa using h1
  obtain ⟨h3, h4⟩ := hx3
  have h3' : v3 = .int .i64 el.2.2.1 := by simpa using h3
  rw [h1', h3']
  exact order_walk _ _ _ W (by rw [size_mk]; unfold Fit reachBytes at h0; omega) (tab_of_laid hL)

theorem own : ownKnob Tryd.prog.godebug = none := by kernel_rfl
theorem laidOut : laidOutB Tryd.prog = true := by kernel_rfl
set_option maxRecDepth 100000 in
theorem laid_met (os : Os) : laidMet Tryd.prog Rows.pathOrderRow.laid ((laidWorld os Rows.pathOrderRow.laid).forCall (fun _ _ => 0) ⟨#[], #[.string ByteArray.empty, .int .i64 0, .int .i64 0], []⟩).memory :=
  laidMet_of_run' 8 (by kernel_rfl) (by kernel_rfl)
set_option maxRecDepth 100000 in
theorem reads (os : Os) {H : Type} (enc : TypeId × Value → H) : ∃ places, DataW.whole enc Tryd.prog ((laidWorld os Rows.pathOrderRow.laid).forCall (fun _ _ => 0) ⟨#[], #[.string ByteArray.empty, .int .i64 0, .int .i64 0], []⟩).memory Tryd.f7.params.toList Rows.pathOrderSpec.vars false (#[.string ByteArray.empty, .int .i64 0, .int .i64 0] : Array Value).toList 8 = some ([.lit (.string []), .lit (.int .i64 0), .lit (.int .i64 0)], [], places) :=
  ⟨[], by kernel_rfl⟩

set_option maxRecDepth 100000 in
theorem lifted (os : Os) (started : os.Started) (H : Type) (enc : TypeId × Value → H) (F : Stop.Interp) :
    ReturnsInHanded {} Tryd.checked os 7 .any ((OpenSpec.ofChange Rows.pathOrderSpec).preRow enc Tryd.prog Tryd.f7 Rows.pathOrderRow.domain false Rows.pathOrderRow.laid) (((OpenSpec.ofChange Rows.pathOrderSpec).at F).post enc Tryd.prog Tryd.f7 false true false false) := by
  obtain ⟨places, hx⟩ := reads os enc
  refine returnsInHanded_of_row (C := Tryd.checked) (s := (OpenSpec.ofChange Rows.pathOrderSpec)) own started (by kernel_rfl) Tryd.func7
    (witness_row_at (enc := enc) (C := Tryd.checked) false (laidWorld os Rows.pathOrderRow.laid) #[.string ByteArray.empty, .int .i64 0, .int .i64 0] rfl (by kernel_rfl) (by kernel_rfl) (by kernel_rfl)
      (OpenSpec.preRow_of_cond 8 hx (by kernel_rfl) (fun k hk => by cases hk) (by kernel_rfl) (laid_met os))) ?_
  intro W base args ds gs before hval hW _ hcond hsz hL hsh _
  exact law_said_at T (by kernel_rfl) laidOut (by kernel_rfl) rfl rfl Tryd.underlying4 (fun ds h => by
    match ds, h with
    | [d0, d1, d2], _ => rfl) W (walk' W hL hsh) base args ds gs before hval hW hsz

theorem over : Rows.PathOrderSaid :=
  OpenClaim.holds_of_cond 7 Tryd.f7 rfl rfl rfl rfl rfl rfl rfl ⟨rfl, rfl, rfl, rfl, rfl⟩ rfl rfl rfl rfl rfl (by kernel_rfl) Tryd.func7 (by kernel_rfl)
    (of_decide_eq_true (by kernel_rfl)) (by unfold Func.isWrapper; first | (rw [if_pos (by decide +kernel)]; kernel_rfl) | (rw [if_neg (by decide +kernel)]; exact ⟨rfl, rfl⟩))
    (fun os started H enc _ F => by rw [OpenClaim.pre_eq_preRow]; exact lifted os started H enc F)

theorem bare (f : FuncId) (fn : Func) (hf : Tryd.pinned.checked.prog.funcNamed "althing/althinglaw02.PathOrder" = some f) (hfn : Tryd.pinned.checked.prog.funcs[f]? = some fn) :
    false = Tryd.pinned.checked.prog.looks [] ∧ ∀ (j : Nat) t, fn.params[j]? = some t → Tryd.pinned.checked.prog.wantsStandIn t = false := by
  obtain rfl : f = 7 := Option.some.inj ((show Tryd.prog.funcNamed "althing/althinglaw02.PathOrder" = some 7 by kernel_rfl).symm.trans hf) |>.symm
  obtain rfl : fn = Tryd.f7 := (Option.some.inj (Tryd.func7.symm.trans hfn)).symm
  refine ⟨by kernel_rfl, fun j t ht => ?_⟩
  have h : Tryd.f7.params.toList.all (fun t => !(Tryd.prog.wantsStandIn t)) = true := by kernel_rfl
  have h1 := List.all_eq_true.1 h t (by simpa using Array.mem_of_getElem? ht)
  have h2 : Tryd.prog.wantsStandIn t = false := by simpa using h1
  exact h2

theorem proved : Rows.PathOrderCardSaid :=
  Claim7.holds_tied_plain_at .later [] _ _ _ _ over (fun _ h => by cases h) (by kernel_rfl) (fun _ h => by cases h) pathOrder_row_tie rfl ⟨rfl, rfl⟩ (by kernel_rfl) rfl bare (by kernel_rfl)
#print axioms proved
end pathOrder
end Go.Proofs.YtjbmphkoafkgfaaDoor
