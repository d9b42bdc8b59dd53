/-
  WireBack: a number and a payload are read back from where they stand, with whatever is ahead and behind. Where the arguments hold together at most 1048576 values and letters (the second form).
-/
import Derived.Test.YtimickmlmlihpaaAwake01
import Derived.Test.YtimickmlmlihpaaArgs
import Derived.Test.YtimickmlmlihpaaUnframe
import Derived.Test.YtimickmlmlihpaaBitsP
import Derived.Test.YtimickmlmlihpaaDec
import Derived.Test.YtimickmlmlihpaaDecL
namespace Go.Proofs.Ytimickmlmlihpaa.wireBack
open Go.RowKit
set_option maxRecDepth 20000
set_option linter.unusedVariables false

set_option maxHeartbeats 8000000 in
theorem walk (n : Int) (vp va vb : Value) (p a b : List UInt8) (w : World) (hp : IsBytes w vp p) (ha : IsBytes w va a) (hb : IsBytes w vb b) (mp : p.length ≤ 1048576) (ma : a.length ≤ 1048576) (mb : b.length ≤ 1048576) :
    Calls Try.prog 8 #[.agg #[.int .i64 n, vp, va, vb]] w fun e w' => e = .returned (.bool true) ∧ Below w.heap.size w w' := by
  have P0 := hid hp
  have A0 := hid ha
  have L0 := hid hb
  obtain ⟨ap, cp, rfl, _⟩ := hp
  obtain ⟨aa, ca, rfl, _⟩ := ha
  obtain ⟨ab, cb, rfl, _⟩ := hb
  go_enter Try.func8, Try.ntmps8
  go_wp2_with fail
  go_quiet (fail)
  have hB0 : Below w.heap.size w ((w.alloc (.cells #[.int .i64 n, .slice ap p.length cp, .slice aa a.length ca, .slice ab b.length cb] 50)).drewN nq) := (below_new _).trans (below_drewN' nq)
  generalize ((w.alloc (.cells #[.int .i64 n, .slice ap p.length cp, .slice aa a.length ca, .slice ab b.length cb] 50)).drewN nq) = w1 at hB0 ⊢
  have HB0 := hid hB0
  clear hB0
  go_wp2_with fail
  have hB1 : Below w.heap.size w (w1.alloc (.cells #[.int .i64 n] 3)) := below_next HB0.out (below_new _)
  refine (wire_numbers _ 1 [n] _ (RowAt.new w1 #[.int .i64 n] _ _) (by simp)).mono ?_
  rintro e w2 ⟨v2, rfl, ho, hb⟩
  have B2 := hid (below_next hB1 hb)
  have P2 := hid (P0.out.below B2.out)
  have A2 := hid (A0.out.below B2.out)
  have L2 := hid (L0.out.below B2.out)
  have F2 := hid (owns_bytes ho)
  obtain ⟨a2, c2, rfl, _⟩ := owns_bytes ho
  clear ho hb hB1 HB0 P0 A0 L0
  by_cases hn : isNum n = true
  rotate_left
  · have hn2 : isNum n = false := by simpa using hn
    have he : numbersErr [n] = 10 := by unfold numbersErr; simp [hn2]
    have HN := hid hn2
    rw [he]
    clear hn hn2 he
    have B3 := hid B2.out
    have P3 := hid P2.out
    have A3 := hid A2.out
    have L3 := hid L2.out
    clear B2 P2 A2 L2 F2
    go_wp2_with fail
    refine (ref_copy _ p _ P3.out (by omega)).mono ?_
    rintro e w4 ⟨v4, rfl, ho, hb⟩
    have B4 := hid (below_next B3.out hb)
    have P4 := hid (P3.out.below hb)
    have A4 := hid (A3.out.below hb)
    have L4 := hid (L3.out.below hb)
    have I4 := hid (owns_bytes ho)
    clear ho hb B3 P3 A3 L3
    go_wp2_with fail
    refine (wire_frame _ p _ I4.out).mono ?_
    rintro e w5 ⟨v5, rfl, ho, hb⟩
    have B5 := hid (below_next B4.out hb)
    have P5 := hid (P4.out.below hb)
    have A5 := hid (A4.out.below hb)
    have L5 := hid (L4.out.below hb)
    have F5 := hid (owns_bytes ho)
    obtain ⟨a5, c5, rfl, _⟩ := owns_bytes ho
    clear ho hb B4 P4 A4 L4 I4
    by_cases hp : p.length ≤ 65536
    · have hfe : frameErr p = 0 := if_pos hp
      have hfb : frameBytes p = frameOf p := if_pos hp
      have hfl := frameOf_length p
      rw [hfe, hfb]
      rw [hfb] at F5
      have hmid := hid (unframeAt_mid a p b hp)
      rw [List.append_assoc] at hmid
      have hflen := hid hfl
      have hsum : (a ++ (frameOf p ++ b)).length ≤ 140737488351232 := by simp; omega
      have HS := hid hsum
      have hal : a.length + (frameOf p).length ≤ 9223372036854775807 := by omega
      clear hfe hfb hfl hsum
      go_wp2_with fail
      have hB : Hid (Below w5.heap.size w5 (w5.alloc (.cells #[.slice aa a.length ca, .slice a5 (frameOf p).length c5, .slice ab b.length cb] 22))) := below_new _
      refine (ref_join _ _ [.slice aa a.length ca, .slice a5 (frameOf p).length c5, .slice ab b.length cb] [a, frameOf p, b] _
        (RowAt.new w5 #[.slice aa a.length ca, .slice a5 (frameOf p).length c5, .slice ab b.length cb] _ _)
        (allBytes_cons (A5.out.below hB.out) (allBytes_cons (F5.out.below hB.out) (allBytes_cons (L5.out.below hB.out) (allBytes_nil _)))) (by simp; have := hflen.out; omega) (by simp)).mono ?_
      rintro e w6 ⟨v6, rfl, ho, hb⟩
      simp only [List.flatten_cons, List.flatten_nil, List.append_nil] at ho
      have hb6 := below_next hB.out hb
      have B6 := hid (below_next B5.out hb6)
      have P6 := hid (P5.out.below hb6)
      have F6 := hid (owns_bytes ho)
      clear ho hb hb6 hB B5 P5 A5 L5 F5
      go_wp2_with fail
      refine (wire_unframe _ _ _ _ F6.out HS.out).mono ?_
      rintro e w7 ⟨v7, rfl, ho, hb⟩
      rw [hmid.out]
      rw [hmid.out] at ho
      have BF := hid (below_next B6.out hb)
      have P7 := hid (P6.out.below hb)
      have Q7 := hid (owns_bytes ho)
      clear ho hb B6 P6 F6 HS
      go_wp2_with fail
      refine (ref_same _ _ _ _ _ Q7.out P7.out).mono ?_
      rintro e w8 ⟨rfl, rfl⟩
      rw [beq_self_eq_true]
      clear Q7 P7
      go_wp2_with (go_at_call 24; refine (ref_bad _ _).mono ?_; rintro e wz ⟨rfl, rfl⟩; rw [HN.out]; refine Stop.mk ?_)
      refine Stop.go ?_
      go_wp2_with fail
      refine (awake01 _).mono ?_
      rintro e w9 ⟨rfl, hb⟩
      have B9 := hid (below_next BF.out hb)
      clear hb BF
      go_wp2
      go_ret
      exact ⟨rfl, B9.out⟩
    · have hfe : frameErr p = 14 := if_neg hp
      have hpd : decide ((p.length : Int) ≤ 65536) = false := decide_eq_false (by omega)
      rw [hfe]
      have BF := hid B5.out
      clear hfe B5 P5 A5 L5 F5
      go_wp2_with (go_at_call 24; refine (ref_bad _ _).mono ?_; rintro e wz ⟨rfl, rfl⟩; rw [HN.out]; refine Stop.mk ?_)
      refine Stop.go ?_
      go_wp2_with fail
      refine (awake01 _).mono ?_
      rintro e w9 ⟨rfl, hb⟩
      have B9 := hid (below_next BF.out hb)
      clear hb BF
      go_wp2
      go_ret
      exact ⟨rfl, B9.out⟩
  · obtain ⟨N, rfl⟩ : ∃ m : Nat, n = m := ⟨n.toNat, by have := (isNum_iff n).1 hn; omega⟩
    have hN : N < 4611686018427387904 := by have := (isNum_iff _).1 hn; omega
    have HN := hid hn
    rw [(numbers_one hN).1, (numbers_one hN).2]
    rw [(numbers_one hN).2] at F2
    have hlen := enc_length9 (n := N) (by omega)
    have hmid := hid (decodeAt_mid a b hN)
    rw [List.append_assoc] at hmid
    clear hn hN
    go_wp2_with fail
    have hB : Hid (Below w2.heap.size w2 (w2.alloc (.cells #[.slice aa a.length ca, .slice a2 (enc N).length c2, .slice ab b.length cb] 22))) := below_new _
    refine (ref_join _ _ [.slice aa a.length ca, .slice a2 (enc N).length c2, .slice ab b.length cb] [a, enc N, b] _
      (RowAt.new w2 #[.slice aa a.length ca, .slice a2 (enc N).length c2, .slice ab b.length cb] _ _)
      (allBytes_cons (A2.out.below hB.out) (allBytes_cons (F2.out.below hB.out) (allBytes_cons (L2.out.below hB.out) (allBytes_nil _)))) (by simp; omega) (by simp)).mono ?_
    rintro e w3 ⟨v3, rfl, ho, hb⟩
    simp only [List.flatten_cons, List.flatten_nil, List.append_nil] at ho
    have hb3 := below_next hB.out hb
    have B3 := hid (below_next B2.out hb3)
    have P3 := hid (P2.out.below hb3)
    have A3 := hid (A2.out.below hb3)
    have L3 := hid (L2.out.below hb3)
    have F3 := hid (owns_bytes ho)
    clear ho hb hb3 hB B2 P2 A2 L2 F2
    go_wp2_with fail
    refine (wire_number _ _ _ _ F3.out).mono ?_
    rintro e w4 ⟨rfl, rfl⟩
    rw [hmid.out]
    clear F3
    go_wp2_with fail
    refine (ref_copy _ p _ P3.out (by omega)).mono ?_
    rintro e w4 ⟨v4, rfl, ho, hb⟩
    have B4 := hid (below_next B3.out hb)
    have P4 := hid (P3.out.below hb)
    have A4 := hid (A3.out.below hb)
    have L4 := hid (L3.out.below hb)
    have I4 := hid (owns_bytes ho)
    clear ho hb B3 P3 A3 L3
    go_wp2_with fail
    refine (wire_frame _ p _ I4.out).mono ?_
    rintro e w5 ⟨v5, rfl, ho, hb⟩
    have B5 := hid (below_next B4.out hb)
    have P5 := hid (P4.out.below hb)
    have A5 := hid (A4.out.below hb)
    have L5 := hid (L4.out.below hb)
    have F5 := hid (owns_bytes ho)
    obtain ⟨a5, c5, rfl, _⟩ := owns_bytes ho
    clear ho hb B4 P4 A4 L4 I4
    by_cases hp : p.length ≤ 65536
    · have hfe : frameErr p = 0 := if_pos hp
      have hfb : frameBytes p = frameOf p := if_pos hp
      have hfl := frameOf_length p
      rw [hfe, hfb]
      rw [hfb] at F5
      have hmid := hid (unframeAt_mid a p b hp)
      rw [List.append_assoc] at hmid
      have hflen := hid hfl
      have hsum : (a ++ (frameOf p ++ b)).length ≤ 140737488351232 := by simp; omega
      have HS := hid hsum
      have hal : a.length + (frameOf p).length ≤ 9223372036854775807 := by omega
      clear hfe hfb hfl hsum
      go_wp2_with fail
      have hB : Hid (Below w5.heap.size w5 (w5.alloc (.cells #[.slice aa a.length ca, .slice a5 (frameOf p).length c5, .slice ab b.length cb] 22))) := below_new _
      refine (ref_join _ _ [.slice aa a.length ca, .slice a5 (frameOf p).length c5, .slice ab b.length cb] [a, frameOf p, b] _
        (RowAt.new w5 #[.slice aa a.length ca, .slice a5 (frameOf p).length c5, .slice ab b.length cb] _ _)
        (allBytes_cons (A5.out.below hB.out) (allBytes_cons (F5.out.below hB.out) (allBytes_cons (L5.out.below hB.out) (allBytes_nil _)))) (by simp; have := hflen.out; omega) (by simp)).mono ?_
      rintro e w6 ⟨v6, rfl, ho, hb⟩
      simp only [List.flatten_cons, List.flatten_nil, List.append_nil] at ho
      have hb6 := below_next hB.out hb
      have B6 := hid (below_next B5.out hb6)
      have P6 := hid (P5.out.below hb6)
      have F6 := hid (owns_bytes ho)
      clear ho hb hb6 hB B5 P5 A5 L5 F5
      go_wp2_with fail
      refine (wire_unframe _ _ _ _ F6.out HS.out).mono ?_
      rintro e w7 ⟨v7, rfl, ho, hb⟩
      rw [hmid.out]
      rw [hmid.out] at ho
      have BF := hid (below_next B6.out hb)
      have P7 := hid (P6.out.below hb)
      have Q7 := hid (owns_bytes ho)
      clear ho hb B6 P6 F6 HS
      go_wp2_with fail
      refine (ref_same _ _ _ _ _ Q7.out P7.out).mono ?_
      rintro e w8 ⟨rfl, rfl⟩
      rw [beq_self_eq_true]
      clear Q7 P7
      go_wp2_with (go_at_call 24; refine (ref_bad _ _).mono ?_; rintro e wz ⟨rfl, rfl⟩; rw [HN.out]; refine Stop.mk ?_)
      refine Stop.go ?_
      go_wp2_with fail
      refine (awake01 _).mono ?_
      rintro e w9 ⟨rfl, hb⟩
      have B9 := hid (below_next BF.out hb)
      clear hb BF
      go_wp2
      go_ret
      exact ⟨rfl, B9.out⟩
    · have hfe : frameErr p = 14 := if_neg hp
      have hpd : decide ((p.length : Int) ≤ 65536) = false := decide_eq_false (by omega)
      rw [hfe]
      have BF := hid B5.out
      clear hfe B5 P5 A5 L5 F5
      go_wp2_with (go_at_call 24; refine (ref_bad _ _).mono ?_; rintro e wz ⟨rfl, rfl⟩; rw [HN.out]; refine Stop.mk ?_)
      refine Stop.go ?_
      go_wp2_with fail
      refine (awake01 _).mono ?_
      rintro e w9 ⟨rfl, hb⟩
      have B9 := hid (below_next BF.out hb)
      clear hb BF
      go_wp2
      go_ret
      exact ⟨rfl, B9.out⟩

def T : Ty := .pair (.pair (.int .i64) (.pair (.slice (.int .u8)) (.pair (.slice (.int .u8)) (.pair (.slice (.int .u8)) .unit)))) .unit
theorem walk' (W : World) (vs : List Value) (el : T.El) (hr : ArgsRd W T vs el) (hf : Blk T el ≤ 1048576) : Calls Try.prog 8 vs.toArray W fun e w' => e = .returned (.bool true) ∧ Below W.heap.size W w' := by
  obtain ⟨v, r, cs, rfl, rfl, ⟨c1, d1, rfl, _, ⟨rfl, _⟩, c2, d2, rfl, hl2, h2, c3, d3, rfl, hl3, h3, c4, d4, rfl, hl4, h4, rfl⟩, rfl⟩ := hr
  simp only [Ty.cells] at hl2 hl3 hl4
  obtain ⟨v2, rfl⟩ := List.length_eq_one_iff.1 hl2
  obtain ⟨v3, rfl⟩ := List.length_eq_one_iff.1 hl3
  obtain ⟨v4, rfl⟩ := List.length_eq_one_iff.1 hl4
  obtain ⟨b2, k2, hb2, _⟩ := bytes_of_rd h2
  obtain ⟨b3, k3, hb3, _⟩ := bytes_of_rd h3
  obtain ⟨b4, k4, hb4, _⟩ := bytes_of_rd h4
  have m2 := blk_slice (e := .int .u8) (fun _ => Nat.le_refl _) el.1.2.1
  have m3 := blk_slice (e := .int .u8) (fun _ => Nat.le_refl _) el.1.2.2.1
  have m4 := blk_slice (e := .int .u8) (fun _ => Nat.le_refl _) el.1.2.2.2.1
  have hf' : (1 + (Blk (.slice (.int .u8)) el.1.2.1 + (Blk (.slice (.int .u8)) el.1.2.2.1 + (Blk (.slice (.int .u8)) el.1.2.2.2.1 + 0)))) + 0 ≤ 1048576 := hf
  exact walk el.1.1 v2 v3 v4 b2 b3 b4 W hb2 hb3 hb4 (by rw [k2]; omega) (by rw [k3]; omega) (by rw [k4]; omega)

theorem own : ownKnob Try.prog.godebug = none := by kernel_rfl
theorem laidOut : laidOutB Try.prog = true := by kernel_rfl

set_option maxRecDepth 100000 in
theorem lifted (os : Os) (started : os.Started) (H : Type) (enc : TypeId × Value → H) (F : Stop.Interp) :
    ReturnsInHanded {} Try.checked os 8 .any ((Rows.OpenSpec.upto Rows.wireBackSpec).pre6 enc Try.prog Try.f8 Rows.wireBackUptoRow.domain false) (((Rows.OpenSpec.upto Rows.wireBackSpec).at F).post enc Try.prog Try.f8 false true false false) := by
  refine returnsInHanded_of_cond (C := Try.checked) (s := Rows.OpenSpec.upto Rows.wireBackSpec) (k := Rows.uptoSmall) rfl own started (by kernel_rfl) Try.func8
    (OpenSpec.witness (enc := enc) (C := Try.checked) (s := Rows.OpenSpec.upto Rows.wireBackSpec) (k := Rows.uptoSmall) rfl false ⟨#[], #[.agg #[.int .i64 0, .slice none 0 0, .slice none 0 0, .slice none 0 0]], []⟩ 16 (by kernel_rfl) (by kernel_rfl) (by kernel_rfl)
      (x := ([.agg [.lit (.int .i64 0), .nil, .nil, .nil]], [], [])) (by kernel_rfl) rfl (by kernel_rfl)) ?_
  intro W base args ds gs before hval hW _ hk _
  exact law_upto T (by kernel_rfl) laidOut (by kernel_rfl) rfl rfl Try.underlying4 (fun ds h => by
    match ds, h with
    | [d0], _ => rfl) walk' W base args ds gs before hval hW hk

theorem over : Rows.wireBackUptoRow.holds Try.pinned (Rows.OpenSpec.upto Rows.wireBackSpec) :=
  OpenClaim.holds_of_cond 8 Try.f8 rfl rfl rfl rfl rfl rfl rfl ⟨rfl, rfl, rfl, rfl, rfl⟩ rfl rfl rfl rfl rfl (by kernel_rfl) Try.func8 (by kernel_rfl)
    (of_decide_eq_true (by kernel_rfl)) (by unfold Func.isWrapper; first | (rw [if_pos (by decide +kernel)]; kernel_rfl) | (rw [if_neg (by decide +kernel)]; exact ⟨rfl, rfl⟩))
    (fun os started H enc _ F => lifted os started H enc F)

theorem proved : Rows.WireBackUptoSaid := over
#print axioms proved
end Go.Proofs.Ytimickmlmlihpaa.wireBack
