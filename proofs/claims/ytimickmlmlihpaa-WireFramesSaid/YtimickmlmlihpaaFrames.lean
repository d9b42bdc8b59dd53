/-
  WireFrames: frames are made and opened as the document says, at any place of any bytes, which stay as they were. For every input; no condition beyond the form's own reach.
-/
import Derived.Test.YtimickmlmlihpaaAwake01
import Derived.Test.YtimickmlmlihpaaArgs
import Derived.Test.YtimickmlmlihpaaUnframeR
namespace Go.Proofs.Ytimickmlmlihpaa.wireFrames
open Go.RowKit
set_option maxRecDepth 20000
set_option linter.unusedVariables false

theorem unframe_len (r : List UInt8) : (unframe r).1.length ≤ r.length := by
  unfold unframe
  repeat' split
  all_goals simp
  omega
theorem unframeAt_len (l : List UInt8) (n : Int) : (unframeAt l n).1.length ≤ l.length := by
  unfold unframeAt
  split
  · split
    · have := unframe_len (l.drop n.toNat); rw [List.length_drop] at this; exact Nat.le_trans this (Nat.sub_le _ _)
    · simp
  · simp

set_option maxHeartbeats 4000000 in
theorem walk (v0 v9 : Value) (p l : List UInt8) (n : Int) (w : World) (hv : IsBytes w v0 p) (hv9 : IsBytes w v9 l) (hm : p.length ≤ 140737488351232) (hm9 : l.length ≤ 140737488351232) :
    Calls Try.prog 6 #[v0, v9, .int .i64 n] w fun e w' => e = .returned (.bool true) ∧ Below w.heap.size w w' := by
  have P0 := hid hv
  have L0 := hid hv9
  obtain ⟨a, c, rfl, _⟩ := hv
  obtain ⟨a9, c9, rfl, _⟩ := hv9
  go_enter Try.func6, Try.ntmps6
  go_wp2_with fail
  refine (ref_copy _ p _ P0.out (by omega)).mono ?_
  rintro e w1 ⟨v1, rfl, ho, hb⟩
  have B1 := hid hb
  have S1 := hid hb.size
  have P1 := hid (P0.out.below hb)
  have L1 := hid (L0.out.below hb)
  have I1 := hid (owns_bytes ho)
  clear ho hb P0 L0
  go_wp2_with fail
  refine (wire_frame _ p _ I1.out).mono ?_
  rintro e w2 ⟨v2, rfl, ho, hb⟩
  have B2 := hid (below_step B1.out S1.out hb)
  have S2 := hid (Nat.le_trans S1.out hb.size)
  have P2 := hid (P1.out.below hb)
  have L2 := hid (L1.out.below hb)
  have I2 := hid (I1.out.below hb)
  have F2 := hid (owns_bytes ho)
  clear ho hb P1 L1 I1 B1 S1
  go_wp2_with fail
  refine (ref_frame _ p _ P2.out).mono ?_
  rintro e w3 ⟨v3, rfl, ho, hb⟩
  have B3 := hid (below_step B2.out S2.out hb)
  have S3 := hid (Nat.le_trans S2.out hb.size)
  have P3 := hid (P2.out.below hb)
  have L3 := hid (L2.out.below hb)
  have I3 := hid (I2.out.below hb)
  have F3 := hid (F2.out.below hb)
  have G3 := hid (owns_bytes ho)
  clear ho hb P2 L2 I2 F2 B2 S2
  go_wp2_with fail
  refine (ref_copy _ l _ L3.out (by omega)).mono ?_
  rintro e w4 ⟨v4, rfl, ho, hb⟩
  have B4 := hid (below_step B3.out S3.out hb)
  have S4 := hid (Nat.le_trans S3.out hb.size)
  have P4 := hid (P3.out.below hb)
  have L4 := hid (L3.out.below hb)
  have I4 := hid (I3.out.below hb)
  have F4 := hid (F3.out.below hb)
  have G4 := hid (G3.out.below hb)
  have J4 := hid (owns_bytes ho)
  clear ho hb P3 L3 I3 F3 G3 B3 S3
  go_wp2_with fail
  refine (wire_unframe _ l n _ J4.out hm9).mono ?_
  rintro e w5 ⟨v5, rfl, ho, hb⟩
  have B5 := hid hb
  have S5 := hid hb.size
  have O5 := hid ho
  have L5 := hid (L4.out.below hb)
  have F5 := hid (F4.out.below hb)
  have G5 := hid (G4.out.below hb)
  clear ho hb F4 G4
  go_wp2_with fail
  refine (ref_unframe _ l n _ L5.out hm9).mono ?_
  rintro e w6 ⟨v6, rfl, ho, hb⟩
  have B6 := hid (below_step B5.out S5.out hb)
  have S6 := hid (Nat.le_trans S5.out hb.size)
  have O6 := hid (owns_below O5.out hb)
  have F6 := hid (F5.out.below hb)
  have G6 := hid (G5.out.below hb)
  have K6 := hid (owns_bytes ho)
  have Q6 := hid (owns_bytes O6.out)
  clear ho hb O5 L5 F5 G5 B5 S5
  have e1 : (frameErr p != frameErr p) = false := by simp
  have e2 : ((unframeAt l n).2.1 != (unframeAt l n).2.1) = false := by simp
  have e3 : ((unframeAt l n).2.2 != (unframeAt l n).2.2) = false := by simp
  have hql := unframeAt_len l n
  generalize frameErr p = E1 at e1
  generalize (unframeAt l n).2.1 = E2 at e2
  generalize (unframeAt l n).2.2 = E3 at e3
  generalize (unframeAt l n).1 = q at O6 K6 Q6 hql
  go_wp2_with fail
  refine (ref_same _ _ _ _ _ F6.out G6.out).mono ?_
  rintro e w7 ⟨rfl, rfl⟩
  rw [beq_self_eq_true]
  go_wp2_with fail
  refine (ref_same _ _ _ _ _ Q6.out K6.out).mono ?_
  rintro e w7 ⟨rfl, rfl⟩
  rw [beq_self_eq_true]
  clear F6 G6 K6
  obtain ⟨a5, c5, rfl, _⟩ := Q6.out
  clear Q6
  go_wp2_with fail
  have B0 := hid (Below.refl w4.heap.size w4)
  clear e1 e2 e3
  go_loopw [75] (fun i wr => ∃ (k : Nat) (xs : List UInt8), i = .int .i64 k ∧ k ≤ q.length ∧ xs.length = q.length ∧ wr.ownsRow w4.heap.size 5 1 (.slice a5 q.length c5) q.length (xs.map byt) ∧ Below w4.heap.size w4 wr) (fun i _ => q.length - (intOf i).toNat)
  case atStart => exact ⟨0, q, rfl, Nat.zero_le _, rfl, O6.out, B6.out⟩
  case round =>
    obtain ⟨k, xs, rfl, hk, hxs, hown, hbel⟩ := hrel
    by_cases hlt : k < q.length
    · obtain ⟨g, rfl, hg, _⟩ := own_some hown (by omega)
      have hcell : wr.cell? ⟨g, k, none⟩ = some (byt xs[k]) := by
        rw [hown.cellAt k (by omega)]; simp [show k < xs.length by omega]
      have hfr := hown.frozenAt k
      have hx := not_u8 xs[k]
      have hst := fun u => hown.stored k u
      have HO := hid hown
      have HB := hid hbel
      generalize UInt8.ofNat (255 - xs[k].toNat) = y at hx
      generalize xs[k] = x at hcell hx
      have hx2 : bits .xor .u8 (if IntKind.u8.signed = true then -1 else IntKind.u8.max) (x.toNat : Int) = (y.toNat : Int) := by rw [if_neg (by decide)]; exact hx
      have HST := hid (hst (byt y))
      clear hst hown hbel O6 B6
      go_wp2_with fail
      go_roundw
      case rel => exact ⟨k + 1, xs.set k y, by go_num, by omega, by simpa using hxs, by rw [List.map_set]; exact HST.out.1, HB.out.grown HST.out.2 (by omega) (fun z hz => by injection hz with hz; omega)⟩
      case measure => simp [intOf]; omega
    · have HB := hid hbel
      have B7 := hid (below_step B4.out S4.out hbel)
      have S7 := hid (Nat.le_trans S4.out hbel.size)
      have P7 := hid (P4.out.below hbel)
      have L7 := hid (L4.out.below hbel)
      have I7 := hid (I4.out.below hbel)
      have J7 := hid (J4.out.below hbel)
      clear hown hbel O6 B6 P4 L4 I4 J4 B4 S4 HB
      go_wp2_with fail
      refine (ref_same _ _ _ _ _ I7.out P7.out).mono ?_
      rintro e w7 ⟨rfl, rfl⟩
      rw [beq_self_eq_true]
      go_wp2_with fail
      refine (ref_same _ _ _ _ _ J7.out L7.out).mono ?_
      rintro e w7 ⟨rfl, rfl⟩
      rw [beq_self_eq_true]
      clear I7 P7 J7 L7
      go_wp2_with fail
      refine (awake01 _).mono ?_
      rintro e w7 ⟨rfl, hb⟩
      have B8 := hid (below_step B7.out S7.out hb)
      clear hb B7 S7
      go_wp2
      go_ret
      exact ⟨rfl, B8.out⟩

def T : Ty := .pair (.slice (.int .u8)) (.pair (.slice (.int .u8)) (.pair (.int .i64) .unit))
theorem walk' (W : World) (vs : List Value) (el : T.El) (hr : ArgsRd W T vs el) (hf : Fit T el) : Calls Try.prog 6 vs.toArray W fun e w' => e = .returned (.bool true) ∧ Below W.heap.size W w' := by
  obtain ⟨v, r, cs, rfl, rfl, h1, v2, r2, cs2, rfl, rfl, h2, v3, r3, cs3, rfl, rfl, ⟨h3, _⟩, rfl⟩ := hr
  obtain ⟨bs, hl, hb, _⟩ := bytes_of_rd h1
  obtain ⟨bs2, hl2, hb2, _⟩ := bytes_of_rd h2
  have h4 : el.1.length * 1 ≤ reachBytes := hf.1.1
  have h5 : el.2.1.length * 1 ≤ reachBytes := hf.2.1.1
  simp only [List.cons.injEq, and_true] at h3
  rw [h3]
  unfold reachBytes at h4 h5
  exact walk v v2 bs bs2 _ W hb hb2 (by rw [hl]; omega) (by rw [hl2]; omega)

theorem own : ownKnob Try.prog.godebug = none := by kernel_rfl
theorem laidOut : laidOutB Try.prog = true := by kernel_rfl

set_option maxRecDepth 100000 in
theorem lifted (os : Os) (started : os.Started) (H : Type) (enc : TypeId × Value → H) :
    ReturnsInHanded {} Try.checked os 6 .any (Rows.wireFramesSpec.pre6 enc Try.prog Try.f6 Rows.wireFramesRow.domain false) (Rows.wireFramesSpec.post enc Try.prog Try.f6 false true false false) := by
  refine returnsInHanded_of_change_sized (C := Try.checked) own started (by kernel_rfl) Try.func6
    (ChangeSpec.witness6 (enc := enc) (C := Try.checked) false ⟨#[], #[.slice none 0 0, .slice none 0 0, .int .i64 0], []⟩ 16 (by kernel_rfl) (by kernel_rfl) (by kernel_rfl) (by kernel_rfl)) ?_
  intro W base args ds gs before hval hW _ hsz _
  exact law_said T (by kernel_rfl) laidOut (by kernel_rfl) rfl rfl Try.underlying4 (fun ds h => by
    match ds, h with
    | [d0, d1, d2], _ => rfl) walk' W base args ds gs before hval hW hsz

theorem over : Rows.wireFramesRow.holds Try.pinned (OpenSpec.ofChange Rows.wireFramesSpec) :=
  OpenClaim.holds_of_wide 6 Try.f6 rfl rfl rfl rfl rfl rfl rfl ⟨rfl, rfl, rfl, rfl, rfl⟩ rfl rfl rfl rfl rfl (by kernel_rfl) Try.func6 (by kernel_rfl)
    (of_decide_eq_true (by kernel_rfl)) (by unfold Func.isWrapper; first | (rw [if_pos (by decide +kernel)]; kernel_rfl) | (rw [if_neg (by decide +kernel)]; exact ⟨rfl, rfl⟩))
    (fun os started H enc _ => lifted os started H enc)

theorem proved : Rows.WireFramesSaid := over
#print axioms proved
end Go.Proofs.Ytimickmlmlihpaa.wireFrames
