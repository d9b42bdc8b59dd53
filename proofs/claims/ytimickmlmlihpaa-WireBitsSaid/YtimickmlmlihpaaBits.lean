/-
  WireBits: a frame in which just one bit of its payload, or of its sum, has been turned is never taken. For every input; no condition beyond the form's own reach.
-/
import Derived.Test.YtimickmlmlihpaaAwake01
import Derived.Test.YtimickmlmlihpaaArgs
import Derived.Test.YtimickmlmlihpaaUnframe
import Derived.Test.YtimickmlmlihpaaBitsP
import Derived.RegionTactic
namespace Go.Proofs.Ytimickmlmlihpaa.wireBits
open Go.RowKit
set_option maxRecDepth 20000
set_option linter.unusedVariables false

set_option maxHeartbeats 4000000 in
theorem walk (v0 : Value) (p : List UInt8) (n b : Int) (w : World) (hv : IsBytes w v0 p) (hm : p.length ≤ 140737488351232) :
    Calls Try.prog 7 #[v0, .int .i64 n, .int .i64 b] w fun e w' => e = .returned (.bool true) ∧ Below w.heap.size w w' := by
  have P0 := hid hv
  obtain ⟨a, c, rfl, _⟩ := hv
  by_cases hin : p.length ≤ 2000 ∧ 4 ≤ n ∧ n < 8 + p.length ∧ 0 ≤ b ∧ b ≤ 7
  rotate_left
  · clear P0
    have hout : 2000 < p.length ∨ (p.length ≤ 2000 ∧ n < 4) ∨ (p.length ≤ 2000 ∧ 4 ≤ n ∧ (8 : Int) + p.length ≤ n) ∨ (p.length ≤ 2000 ∧ 4 ≤ n ∧ n < 8 + p.length ∧ b < 0) ∨ (p.length ≤ 2000 ∧ 4 ≤ n ∧ n < 8 + p.length ∧ 0 ≤ b ∧ 7 < b) := by omega
    clear hin
    rcases hout with h | ⟨h1, h2⟩ | ⟨h1, h2, h3⟩ | ⟨h1, h2, h3, h4⟩ | ⟨h1, h2, h3, h4, h5⟩
    all_goals
      go_enter Try.func7, Try.ntmps7
      go_wp2_with fail
      refine (awake01 _).mono ?_
      rintro e w1 ⟨rfl, hb⟩
      have B1 := hid hb
      clear hb
      go_wp2
      go_ret
      exact ⟨rfl, B1.out⟩
  obtain ⟨hp, hn4, hn8, hb0, hb7⟩ := hin
  obtain ⟨i, rfl⟩ := Int.eq_ofNat_of_zero_le (show 0 ≤ n by omega)
  obtain ⟨t, rfl⟩ := Int.eq_ofNat_of_zero_le hb0
  have hfe : Hid (frameErr p = 0) := if_pos (by omega)
  have hfb : Hid (frameBytes p = frameOf p) := if_pos (by omega)
  go_enter Try.func7, Try.ntmps7
  go_wp2_with fail
  refine (ref_copy _ p _ P0.out (by omega)).mono ?_
  rintro e w1 ⟨v1, rfl, ho, hb⟩
  have B1 := hid hb
  have S1 := hid hb.size
  have I1 := hid (owns_bytes ho)
  clear ho hb P0
  go_wp2_with fail
  refine (wire_frame _ p _ I1.out).mono ?_
  rintro e w2 ⟨v2, rfl, ho, hb⟩
  rw [hfe.out]
  rw [hfb.out] at ho
  have hfl := frameOf_length p
  have B2 := hid (below_step B1.out S1.out hb)
  have S2 := hid (Nat.le_trans S1.out hb.size)
  have O2 := hid ho
  obtain ⟨a2, c2, rfl, _⟩ := owns_bytes ho
  obtain ⟨g, rfl, hg, _⟩ := own_some ho (by omega)
  have hif : i < (frameOf p).length := by omega
  have hcell : w2.cell? ⟨g, i, none⟩ = some (byt (frameOf p)[i]) := by
    rw [ho.cellAt i (by omega)]; simp [hif]
  have hfr := ho.frozenAt i
  have hst := fun y => ho.stored i (byt y)
  have hxl := (frameOf p)[i].toNat_lt
  have HX : Hid (∀ y, y ≠ (frameOf p)[i] → unframe ((frameOf p).set i y) = ([], 15)) := fun y hy => bits_bad p (by omega) i y (by omega) hif hy
  have hfl' : ((frameOf p).length : Int) = 8 + p.length := by omega
  have HFL := hid hfl
  rw [hfl]
  generalize (frameOf p)[i] = x at hcell hxl HX
  have HST := hid hst
  clear ho hb I1 hst hfl
  go_wp2_with fail
  have hi0 : (0 : Int) ≤ (i : Int) := by omega
  have hi1 : (i : Int) < ((8 + p.length : Nat) : Int) := by omega
  have hi2 : i < 8 + p.length := by omega
  obtain ⟨y, hyx, hxor⟩ := flip_bit x t (by omega)
  have hU := hid (HX.out y hyx)
  obtain ⟨ho3, hg3⟩ := HST.out y
  rw [← List.map_set] at ho3
  have hlen3 : ((frameOf p).set i y).length = (frameOf p).length := List.length_set
  have I3 : Hid (IsBytes (w2.setCell ⟨g, i, none⟩ (byt y)).drew (.slice (some ⟨g, 0, none⟩) (frameOf p).length c2) ((frameOf p).set i y)) := by
    have := owns_bytes (l := (frameOf p).set i y) (by rw [hlen3]; exact ho3)
    exact this
  rw [HFL.out] at I3
  have B3 : Hid (Below w.heap.size w (w2.setCell ⟨g, i, none⟩ (byt y)).drew) := (B2.out.grown hg3 S2.out (fun z hz => by injection hz with hz; have := S1.out; omega)).drew
  have S3 : Hid (w.heap.size ≤ (w2.setCell ⟨g, i, none⟩ (byt y)).drew.heap.size) := B3.out.size
  clear ho3 hg3 HST O2 hyx HX
  go_region
  go_wp2_with fail
  refine (wire_unframe _ ((frameOf p).set i y) 0 _ I3.out (by rw [hlen3]; omega)).mono ?_
  rintro e w3 ⟨v3, rfl, ho, hb⟩
  have hun : unframeAt ((frameOf p).set i y) 0 = ([], 0, 15) := by
    have := unframeAt_at ((frameOf p).set i y) 0 (Nat.zero_le _)
    rw [List.drop_zero, hU.out] at this
    exact this
  rw [hun] at ho ⊢
  obtain ⟨a3, c3, rfl, _⟩ := owns_bytes ho
  have B4 := hid (below_step B3.out S3.out hb)
  have S4 := hid (Nat.le_trans S3.out hb.size)
  clear ho hb I3 B3 S3 hun
  go_wp2_with fail
  refine (awake01 _).mono ?_
  rintro e w4 ⟨rfl, hb⟩
  have B5 := hid (below_step B4.out S4.out hb)
  clear hb B4 S4
  go_wp2
  go_ret
  exact ⟨rfl, B5.out⟩

def T : Ty := .pair (.slice (.int .u8)) (.pair (.int .i64) (.pair (.int .i64) .unit))
theorem walk' (W : World) (vs : List Value) (el : T.El) (hr : ArgsRd W T vs el) (hf : Fit T el) : Calls Try.prog 7 vs.toArray W fun e w' => e = .returned (.bool true) ∧ Below W.heap.size W w' := by
  obtain ⟨v, r, cs, rfl, rfl, h1, v2, r2, cs2, rfl, rfl, ⟨h2, _⟩, v3, r3, cs3, rfl, rfl, ⟨h3, _⟩, rfl⟩ := hr
  obtain ⟨bs, hl, hb, _⟩ := bytes_of_rd h1
  have h4 : el.1.length * 1 ≤ reachBytes := hf.1.1
  simp only [List.cons.injEq, and_true] at h2 h3
  rw [h2, h3]
  unfold reachBytes at h4
  exact walk v bs _ _ W hb (by rw [hl]; omega)

theorem own : ownKnob Try.prog.godebug = none := by kernel_rfl
theorem laidOut : laidOutB Try.prog = true := by kernel_rfl

set_option maxRecDepth 100000 in
theorem lifted (os : Os) (started : os.Started) (H : Type) (enc : TypeId × Value → H) :
    ReturnsInHanded {} Try.checked os 7 .any (Rows.wireBitsSpec.pre6 enc Try.prog Try.f7 Rows.wireBitsRow.domain false) (Rows.wireBitsSpec.post enc Try.prog Try.f7 false true false false) := by
  refine returnsInHanded_of_change_sized (C := Try.checked) own started (by kernel_rfl) Try.func7
    (ChangeSpec.witness6 (enc := enc) (C := Try.checked) false ⟨#[], #[.slice none 0 0, .int .i64 0, .int .i64 0], []⟩ 16 (by kernel_rfl) (by kernel_rfl) (by kernel_rfl) (by kernel_rfl)) ?_
  intro W base args ds gs before hval hW _ hsz _
  exact law_said T (by kernel_rfl) laidOut (by kernel_rfl) rfl rfl Try.underlying4 (fun ds h => by
    match ds, h with
    | [d0, d1, d2], _ => rfl) walk' W base args ds gs before hval hW hsz

theorem over : Rows.wireBitsRow.holds Try.pinned (OpenSpec.ofChange Rows.wireBitsSpec) :=
  OpenClaim.holds_of_wide 7 Try.f7 rfl rfl rfl rfl rfl rfl rfl ⟨rfl, rfl, rfl, rfl, rfl⟩ rfl rfl rfl rfl rfl (by kernel_rfl) Try.func7 (by kernel_rfl)
    (of_decide_eq_true (by kernel_rfl)) (by unfold Func.isWrapper; first | (rw [if_pos (by decide +kernel)]; kernel_rfl) | (rw [if_neg (by decide +kernel)]; exact ⟨rfl, rfl⟩))
    (fun os started H enc _ => lifted os started H enc)

theorem proved : Rows.WireBitsSaid := over
#print axioms proved
end Go.Proofs.Ytimickmlmlihpaa.wireBits
