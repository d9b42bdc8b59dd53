/-
  WireOne: what is read as a number is what would be written for it. For every input; no condition beyond the form's own reach.
-/
import Derived.Test.YtimickmlmlihpaaAwake01
import Derived.Test.YtimickmlmlihpaaArgs
import Derived.Test.YtimickmlmlihpaaDec
import Derived.Test.YtimickmlmlihpaaDecL
namespace Go.Proofs.Ytimickmlmlihpaa.wireOne
open Go.RowKit
set_option maxRecDepth 20000
set_option linter.unusedVariables false

theorem decodeAt_ok {l : List UInt8} {n x y : Int} (h : decodeAt l n = (x, y, 0)) : ∃ (m u N : Nat), n = m ∧ x = N ∧ y = (m + u : Nat) ∧ m + u ≤ l.length ∧ N < 4611686018427387904 ∧ enc N = (l.drop m).take u := by
  unfold decodeAt at h
  split at h
  · rename_i hc
    split at h
    · rename_i hz
      obtain ⟨m, rfl⟩ := Int.eq_ofNat_of_zero_le hc.1
      rw [Int.toNat_natCast] at hz h
      simp only [Prod.mk.injEq, and_true] at h
      have hd : decode (l.drop m) = ((decode (l.drop m)).1, (decode (l.drop m)).2.1, 0) := by rw [← hz]
      obtain ⟨e1, e2, e3⟩ := decode_enc hd
      rw [List.length_drop] at e2
      exact ⟨m, (decode (l.drop m)).2.1, (decode (l.drop m)).1, rfl, h.1.symm, by rw [← h.2]; omega, by omega, e3, e1⟩
    · rename_i hz
      simp only [Prod.mk.injEq] at h
      exact absurd (by omega) hz
  · simp at h
theorem decodeAt_bad {l : List UInt8} {n : Int} (h : (decodeAt l n).2.2 ≠ 0) : (decodeAt l n).1 = 0 ∧ (decodeAt l n).2.1 = 0 := by
  unfold decodeAt at *
  split
  · rename_i hc
    rw [if_pos hc] at h
    split
    · rename_i hz; rw [if_pos hz] at h; exact absurd rfl h
    · exact ⟨rfl, rfl⟩
  · exact ⟨rfl, rfl⟩

set_option maxHeartbeats 1600000 in
theorem walk (v : Value) (l : List UInt8) (n : Int) (w : World) (hv : IsBytes w v l) (hm : l.length ≤ 140737488351232) :
    Calls Try.prog 5 #[v, .int .i64 n] w fun e w' => e = .returned (.bool true) ∧ Below w.heap.size w w' := by
  have HV := hid hv
  obtain ⟨a, c, rfl, hr, h0, h1, h2⟩ := hv
  clear hr h0
  go_enter Try.func5, Try.ntmps5
  go_wp2_with fail
  refine (ref_copy _ l _ HV.out (by omega)).mono ?_
  rintro e w1 ⟨v1, rfl, ho, hb⟩
  have HB := hid hb
  have HV1 := hid (owns_bytes ho)
  have HV0 := hid (HV.out.below hb)
  clear ho hb HV
  go_wp2_with fail
  refine (wire_number _ l n _ HV1.out).mono ?_
  rintro e w2 ⟨rfl, rfl⟩
  by_cases he : (decodeAt l n).2.2 = 0
  · obtain ⟨m, u, N, rfl, hx, hy, hmu, hN, henc⟩ := decodeAt_ok (l := l) (n := n) (x := (decodeAt l n).1) (y := (decodeAt l n).2.1) (by rw [← he])
    rw [he, hx, hy]
    clear he hx hy
    have HE := hid henc
    have HN := hid hN
    clear henc hN
    go_wp2_with fail
    refine (wire_numbers _ 1 [(N : Int)] _ (RowAt.new w1 #[.int .i64 (N : Int)] _ _) (by simp)).mono ?_
    rintro e w2 ⟨v2, rfl, ho, hb⟩
    rw [(numbers_one HN.out).1]
    rw [(numbers_one HN.out).2] at ho
    have hba := (Below.refl w1.heap.size w1).alloc (Nat.le_refl _) (.cells #[.int .i64 (N : Int)] 3)
    have hb' := below_step hba (by simp) hb
    have HB2 := hid (below_step HB.out HB.out.size hb')
    have HV2 := hid (HV0.out.below hb')
    have HX := hid (owns_bytes ho)
    clear ho hb hba hb' HB HV0 HV1
    have HP := hid (bytes_part HV2.out m u hmu)
    by_cases hcm : c = m
    · rw [if_pos hcm, show c - m = 0 from by omega] at HP
      go_wp2_with fail
      refine (ref_same _ _ _ _ _ HX.out HP.out).mono ?_
      rintro e w3 ⟨rfl, rfl⟩
      rw [HE.out, beq_self_eq_true]
      clear HP HV2 HX hcm
      go_wp2_with fail
      refine (awake01 _).mono ?_
      rintro e w3 ⟨rfl, hb⟩
      have HB3 := hid (below_step HB2.out HB2.out.size hb)
      clear hb HB2
      go_wp2
      go_ret
      exact ⟨rfl, HB3.out⟩
    · rw [if_neg hcm] at HP
      go_wp2_with fail
      refine (ref_same _ _ _ _ _ HX.out HP.out).mono ?_
      rintro e w3 ⟨rfl, rfl⟩
      rw [HE.out, beq_self_eq_true]
      clear HP HV2 HX hcm
      go_wp2_with fail
      refine (awake01 _).mono ?_
      rintro e w3 ⟨rfl, hb⟩
      have HB3 := hid (below_step HB2.out HB2.out.size hb)
      clear hb HB2
      go_wp2
      go_ret
      exact ⟨rfl, HB3.out⟩
  · obtain ⟨hx, hy⟩ := decodeAt_bad he
    rw [hx, hy]
    have he2 : ((decodeAt l n).2.2 != 0) = true := by rw [bne_iff_ne]; exact he
    clear hx hy he
    generalize (decodeAt l n).2.2 = E at he2
    go_wp2_with fail
    refine (awake01 _).mono ?_
    rintro e w2 ⟨rfl, hb⟩
    have HB2 := hid (below_step HB.out HB.out.size hb)
    clear hb HB
    go_wp2
    go_ret
    exact ⟨rfl, HB2.out⟩

def T : Ty := .pair (.slice (.int .u8)) (.pair (.int .i64) .unit)
theorem walk' (W : World) (vs : List Value) (el : T.El) (hr : ArgsRd W T vs el) (hf : Fit T el) : Calls Try.prog 5 vs.toArray W fun e w' => e = .returned (.bool true) ∧ Below W.heap.size W w' := by
  obtain ⟨v, r, cs, rfl, rfl, h1, v2, r2, cs2, rfl, rfl, ⟨h2, _⟩, rfl⟩ := hr
  obtain ⟨bs, hl, hb, _⟩ := bytes_of_rd h1
  have h3 : el.1.length * 1 ≤ reachBytes := hf.1.1
  simp only [List.cons.injEq, and_true] at h2
  rw [h2]
  exact walk v bs _ W hb (by rw [hl]; unfold reachBytes at h3; omega)

theorem own : ownKnob Try.prog.godebug = none := by kernel_rfl
theorem laidOut : laidOutB Try.prog = true := by kernel_rfl

set_option maxRecDepth 100000 in
theorem lifted (os : Os) (started : os.Started) (H : Type) (enc : TypeId × Value → H) :
    ReturnsInHanded {} Try.checked os 5 .any (Rows.wireOneSpec.pre6 enc Try.prog Try.f5 Rows.wireOneRow.domain false) (Rows.wireOneSpec.post enc Try.prog Try.f5 false true false false) := by
  refine returnsInHanded_of_change_sized (C := Try.checked) own started (by kernel_rfl) Try.func5
    (ChangeSpec.witness6 (enc := enc) (C := Try.checked) false ⟨#[], #[.slice none 0 0, .int .i64 0], []⟩ 16 (by kernel_rfl) (by kernel_rfl) (by kernel_rfl) (by kernel_rfl)) ?_
  intro W base args ds gs before hval hW _ hsz _
  exact law_said T (by kernel_rfl) laidOut (by kernel_rfl) rfl rfl Try.underlying4 (fun ds h => by
    match ds, h with
    | [d0, d1], _ => rfl) walk' W base args ds gs before hval hW hsz

theorem over : Rows.wireOneRow.holds Try.pinned (OpenSpec.ofChange Rows.wireOneSpec) :=
  OpenClaim.holds_of_wide 5 Try.f5 rfl rfl rfl rfl rfl rfl rfl ⟨rfl, rfl, rfl, rfl, rfl⟩ rfl rfl rfl rfl rfl (by kernel_rfl) Try.func5 (by kernel_rfl)
    (of_decide_eq_true (by kernel_rfl)) (by unfold Func.isWrapper; first | (rw [if_pos (by decide +kernel)]; kernel_rfl) | (rw [if_neg (by decide +kernel)]; exact ⟨rfl, rfl⟩))
    (fun os started H enc _ => lifted os started H enc)

theorem proved : Rows.WireOneSaid := over
#print axioms proved
end Go.Proofs.Ytimickmlmlihpaa.wireOne
