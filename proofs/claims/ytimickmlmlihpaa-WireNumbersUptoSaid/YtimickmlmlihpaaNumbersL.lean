/-
  WireNumbers: Numbers writes any numbers in the document's form, or refuses them; Number reads the one at any place of any bytes, or tells the right error. Where the arguments hold together at most 1048576 values and letters (the second form).
-/
import Derived.Test.YtimickmlmlihpaaAwake01
import Derived.Test.YtimickmlmlihpaaArgs
import Derived.Test.YtimickmlmlihpaaCopyInts
import Derived.Test.YtimickmlmlihpaaDec
namespace Go.Proofs.Ytimickmlmlihpaa.wireNumbers
open Go.RowKit
set_option maxRecDepth 20000
set_option linter.unusedVariables false

set_option maxHeartbeats 4000000 in
theorem walk (a0 : Option Addr) (c0 : Nat) (ns : List Int) (v9 : Value) (l : List UInt8) (n : Int) (w : World) (hr : RowAt w a0 (ns.map (Value.int .i64))) (hv9 : IsBytes w v9 l) (hm : ns.length ≤ 1048576) (hm9 : l.length ≤ 1048576) :
    Calls Try.prog 4 #[.slice a0 ns.length c0, v9, .int .i64 n] w fun e w' => e = .returned (.bool true) ∧ Below w.heap.size w w' := by
  have R0 := hid hr
  have L0 := hid hv9
  obtain ⟨a9, c9, rfl, _⟩ := hv9
  clear hr
  go_enter Try.func4, Try.ntmps4
  go_wp2_with fail
  refine (copy_ints _ _ ns _ R0.out (by omega)).mono ?_
  rintro e w1 ⟨v1, rfl, ho, hb⟩
  obtain ⟨a1, c1, rfl, hr1, _⟩ := owns_row ho
  have B1 := hid hb
  have S1 := hid hb.size
  have R1 := hid (R0.out.below hb)
  have L1 := hid (L0.out.below hb)
  have Q1 := hid hr1
  clear ho hb hr1 R0 L0
  go_wp2_with fail
  refine (wire_numbers _ _ ns _ Q1.out (by omega)).mono ?_
  rintro e w2 ⟨v2, rfl, ho, hb⟩
  have B2 := hid (below_step B1.out S1.out hb)
  have S2 := hid (Nat.le_trans S1.out hb.size)
  have R2 := hid (R1.out.below hb)
  have L2 := hid (L1.out.below hb)
  have F2 := hid (owns_bytes ho)
  clear ho hb R1 L1 Q1 B1 S1
  go_wp2_with fail
  refine (ref_numbers _ _ ns _ R2.out (by omega)).mono ?_
  rintro e w3 ⟨v3, rfl, ho, hb⟩
  have B3 := hid (below_step B2.out S2.out hb)
  have S3 := hid (Nat.le_trans S2.out hb.size)
  have L3 := hid (L2.out.below hb)
  have F3 := hid (F2.out.below hb)
  have G3 := hid (owns_bytes ho)
  clear ho hb R2 L2 F2 B2 S2
  go_wp2_with fail
  refine (ref_copy _ l _ L3.out (by omega)).mono ?_
  rintro e w4 ⟨v4, rfl, ho, hb⟩
  have B4 := hid (below_step B3.out S3.out hb)
  have S4 := hid (Nat.le_trans S3.out hb.size)
  have L4 := hid (L3.out.below hb)
  have F4 := hid (F3.out.below hb)
  have G4 := hid (G3.out.below hb)
  have J4 := hid (owns_bytes ho)
  clear ho hb L3 F3 G3 B3 S3
  go_wp2_with fail
  refine (wire_number _ l n _ J4.out).mono ?_
  rintro e w5 ⟨rfl, rfl⟩
  go_wp2_with fail
  refine (ref_number _ l n _ L4.out).mono ?_
  rintro e w5 ⟨rfl, rfl⟩
  generalize (decodeAt l n).1 = E1
  generalize (decodeAt l n).2.1 = E2
  generalize (decodeAt l n).2.2 = E3
  generalize numbersErr ns = E4
  go_wp2_with fail
  refine (awake01 _).mono ?_
  rintro e w5 ⟨rfl, hb⟩
  have B5 := hid (below_step B4.out S4.out hb)
  have F5 := hid (F4.out.below hb)
  have G5 := hid (G4.out.below hb)
  have L5 := hid (L4.out.below hb)
  have J5 := hid (J4.out.below hb)
  clear hb B4 S4 F4 G4 L4 J4
  go_wp2_with fail
  refine (ref_same _ _ _ _ _ F5.out G5.out).mono ?_
  rintro e w6 ⟨rfl, rfl⟩
  rw [beq_self_eq_true]
  clear F5 G5
  go_wp2_with fail
  refine (ref_same _ _ _ _ _ J5.out L5.out).mono ?_
  rintro e w6 ⟨rfl, rfl⟩
  rw [beq_self_eq_true]
  clear J5 L5
  go_wp2
  go_ret
  exact ⟨rfl, B5.out⟩

def T : Ty := .pair (.slice (.int .i64)) (.pair (.slice (.int .u8)) (.pair (.int .i64) .unit))
theorem walk' (W : World) (vs : List Value) (el : T.El) (hr : ArgsRd W T vs el) (hf : Blk T el ≤ 1048576) : Calls Try.prog 4 vs.toArray W fun e w' => e = .returned (.bool true) ∧ Below W.heap.size W w' := by
  obtain ⟨v, r, cs, rfl, rfl, h1, v2, r2, cs2, rfl, rfl, h2, v3, r3, cs3, rfl, rfl, ⟨h3, _⟩, rfl⟩ := hr
  obtain ⟨a, cap, rfl, _, _, _, hrow⟩ := ints_of_rd h1
  obtain ⟨bs2, hl2, hb2, _⟩ := bytes_of_rd h2
  have k1 := blk_slice (e := .int .i64) (fun _ => Nat.le_refl _) el.1
  have k2 := blk_slice (e := .int .u8) (fun _ => Nat.le_refl _) el.2.1
  have hf' : Blk (.slice (.int .i64)) el.1 + (Blk (.slice (.int .u8)) el.2.1 + (1 + 0)) ≤ 1048576 := hf
  simp only [List.cons.injEq, and_true] at h3
  rw [h3]
  exact walk a cap el.1 v2 bs2 _ W hrow hb2 (by omega) (by rw [hl2]; omega)

theorem own : ownKnob Try.prog.godebug = none := by kernel_rfl
theorem laidOut : laidOutB Try.prog = true := by kernel_rfl

set_option maxRecDepth 100000 in
theorem lifted (os : Os) (started : os.Started) (H : Type) (enc : TypeId × Value → H) (F : Stop.Interp) :
    ReturnsInHanded {} Try.checked os 4 .any ((Rows.OpenSpec.upto Rows.wireNumbersSpec).pre6 enc Try.prog Try.f4 Rows.wireNumbersUptoRow.domain false) (((Rows.OpenSpec.upto Rows.wireNumbersSpec).at F).post enc Try.prog Try.f4 false true false false) := by
  refine returnsInHanded_of_cond (C := Try.checked) (s := Rows.OpenSpec.upto Rows.wireNumbersSpec) (k := Rows.uptoSmall) rfl own started (by kernel_rfl) Try.func4
    (OpenSpec.witness (enc := enc) (C := Try.checked) (s := Rows.OpenSpec.upto Rows.wireNumbersSpec) (k := Rows.uptoSmall) rfl false ⟨#[], #[.slice none 0 0, .slice none 0 0, .int .i64 0], []⟩ 16 (by kernel_rfl) (by kernel_rfl) (by kernel_rfl)
      (x := ([.nil, .nil, .lit (.int .i64 0)], [], [])) (by kernel_rfl) rfl (by kernel_rfl)) ?_
  intro W base args ds gs before hval hW _ hk _
  exact law_upto T (by kernel_rfl) laidOut (by kernel_rfl) rfl rfl Try.underlying4 (fun ds h => by
    match ds, h with
    | [d0, d1, d2], _ => rfl) walk' W base args ds gs before hval hW hk

theorem over : Rows.wireNumbersUptoRow.holds Try.pinned (Rows.OpenSpec.upto Rows.wireNumbersSpec) :=
  OpenClaim.holds_of_cond 4 Try.f4 rfl rfl rfl rfl rfl rfl rfl ⟨rfl, rfl, rfl, rfl, rfl⟩ rfl rfl rfl rfl rfl (by kernel_rfl) Try.func4 (by kernel_rfl)
    (of_decide_eq_true (by kernel_rfl)) (by unfold Func.isWrapper; first | (rw [if_pos (by decide +kernel)]; kernel_rfl) | (rw [if_neg (by decide +kernel)]; exact ⟨rfl, rfl⟩))
    (fun os started H enc _ F => lifted os started H enc F)

theorem proved : Rows.WireNumbersUptoSaid := over
#print axioms proved
end Go.Proofs.Ytimickmlmlihpaa.wireNumbers
