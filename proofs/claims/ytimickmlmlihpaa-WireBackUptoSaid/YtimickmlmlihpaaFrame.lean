/-
  wire.four, value, bytes.Clone, Frame, Unframe, and the reference's.
-/
import Derived.Test.YtimickmlmlihpaaJoin
import Derived.Test.YtimickmlmlihpaaSum
import Derived.Test.YtimickmlmlihpaaFrameP
import Derived.WalkSpells
namespace Go.Proofs.Ytimickmlmlihpaa
open Go.RowKit
set_option maxRecDepth 20000

theorem four_row (n : Nat) : (four n).map byt = [.int .u8 ((n : Int) % 256), .int .u8 ((n : Int) / 256 % 256), .int .u8 ((n : Int) / 65536 % 256), .int .u8 ((n : Int) / 16777216 % 256)] := by
  simp only [four, List.map_cons, List.map_nil, byt, toNat_ofNat', Int.natCast_emod, Int.natCast_ediv, Int.cast_ofNat_Int]

set_option maxHeartbeats 400000 in
theorem wire_four (n : Nat) (w : World) (hn : n < 4294967296) :
    Calls Try.prog 28 #[.int .i64 n] w fun e w' => ∃ v, e = .returned v ∧ w'.ownsRow w.heap.size 5 1 v 4 ((four n).map byt) ∧ Below w.heap.size w w' := by
  go_enter Try.func28, Try.ntmps28
  go_wp2_with fail
  go_ret
  refine ⟨_, rfl, ?_, (Below.refl _ _).alloc (Nat.le_refl _) _⟩
  rw [four_row, show (n : Int) / 16777216 % 256 = (n : Int) / 16777216 from by omega]
  exact World.ownsRow_lit w #[_, _, _, _] 4 (Nat.le_refl _) (by unfold maxLen; omega) rfl

set_option maxHeartbeats 400000 in
theorem ref_four (n : Nat) (w : World) (hn : n < 4294967296) :
    Calls Try.prog 29 #[.int .i64 n] w fun e w' => ∃ v, e = .returned v ∧ w'.ownsRow w.heap.size 5 1 v 4 ((four n).map byt) ∧ Below w.heap.size w w' := by
  go_enter Try.func29, Try.ntmps29
  go_wp2_with fail
  go_ret
  refine ⟨_, rfl, ?_, (Below.refl _ _).alloc (Nat.le_refl _) _⟩
  rw [four_row]
  exact World.ownsRow_lit w #[_, _, _, _] 4 (Nat.le_refl _) (by unfold maxLen; omega) rfl

set_option maxHeartbeats 400000 in
theorem bytes_clone (v : Value) (l : List UInt8) (w : World) (hv : IsBytes w v l) (hm : l.length ≤ 140737488355328) :
    Calls Try.prog 31 #[v] w fun e w' => ∃ v, e = .returned v ∧ w'.ownsRow w.heap.size 5 1 v l.length (l.map byt) ∧ Below w.heap.size w w' := by
  have HV := hid hv
  obtain ⟨a, c, rfl, hr, _⟩ := hv
  have heq := Lib.run_eql_slice_nil (P := Try.prog) w 22 5 a l.length c 0 0 Try.underlying22
  go_enter Try.func31, Try.ntmps31
  cases a with
  | none =>
    have hl : l = [] := by simpa using hr.none
    subst hl
    clear hr
    simp only [List.length_nil, Option.isNone_none] at heq
    obtain ⟨_, _, e, _, h0, _⟩ := HV.out
    simp only [Value.slice.injEq] at e
    obtain ⟨rfl, _, rfl⟩ := e
    obtain rfl := h0 rfl
    clear h0 HV
    go_wp2_with fail
    go_ret
    exact ⟨_, rfl, World.ownsRow_nil _ _ _ _, Below.refl _ _⟩
  | some ad =>
    clear hr
    have hB : Hid (Below w.heap.size w (w.alloc (.cells #[] 5))) := (Below.refl _ _).alloc (Nat.le_refl _) _
    go_wp2_with (at_builtin; refine wpList_app_bytes rfl (.tmp 5) (.tmp 6) 22 rfl w.heap.size 5 Try.underlying22 info5 _ _ [] l rfl (World.ownsRow_made w #[] 0 (Nat.le_refl _) (Nat.zero_le _) rfl) rfl (HV.out.below hB.out) (by simpa using hm) (by simp) ?_; intro v' w1 ho1 hb1; refine Stop.mk ?_)
    have HO := hid ho1
    have HB := hid (hB.out.trans hb1)
    clear ho1 hb1 heq
    refine Stop.go ?_
    go_wp2
    go_ret
    exact ⟨v', rfl, by simpa using HO.out, HB.out⟩

set_option maxHeartbeats 800000 in
theorem wire_value (v : Value) (l : List UInt8) (w : World) (hv : IsBytes w v l) (h4 : 4 ≤ l.length) :
    Calls Try.prog 30 #[v] w fun e w' => e = .returned (.int .i64 (value4 l : Nat)) ∧ ∃ n, w' = w.drewN n := by
  obtain ⟨a, c, rfl, hr, h0, h1, h2⟩ := hv
  obtain ⟨b, o, rfl, c0⟩ := hr.at 0 (by simp; omega)
  obtain ⟨_, _, e, c1⟩ := hr.at 1 (by simp; omega)
  simp only [Option.some.injEq, Addr.mk.injEq] at e
  obtain ⟨rfl, rfl, _⟩ := e
  obtain ⟨_, _, e, c2⟩ := hr.at 2 (by simp; omega)
  simp only [Option.some.injEq, Addr.mk.injEq] at e
  obtain ⟨rfl, rfl, _⟩ := e
  obtain ⟨_, _, e, c3⟩ := hr.at 3 (by simp; omega)
  simp only [Option.some.injEq, Addr.mk.injEq] at e
  obtain ⟨rfl, rfl, _⟩ := e
  simp only [List.getElem_map, Nat.add_zero] at c0 c1 c2 c3
  have hval : Hid (value4 l = l[0].toNat + 256 * l[1].toNat + 65536 * l[2].toNat + 16777216 * l[3].toNat) := by
    show _ = _
    unfold value4
    simp [show 0 < l.length by omega, show 1 < l.length by omega, show 2 < l.length by omega, show 3 < l.length by omega]
  generalize l[0] = x0 at *
  generalize l[1] = x1 at *
  generalize l[2] = x2 at *
  generalize l[3] = x3 at *
  have y0 := x0.toNat_lt
  have y1 := x1.toNat_lt
  have y2 := x2.toNat_lt
  have y3 := x3.toNat_lt
  clear hr h0
  have i0 : (0 : Int) < (l.length : Int) := by omega
  have i1 : (1 : Int) < (l.length : Int) := by omega
  have i2 : (2 : Int) < (l.length : Int) := by omega
  have i3 : (3 : Int) < (l.length : Int) := by omega
  go_enter Try.func30, Try.ntmps30
  go_wp2_with fail
  go_quiet (fail)
  go_wp2
  go_ret
  refine ⟨ret_v (int_v ?_), nq, rfl⟩
  rw [hval.out, ← or_bytes]

set_option maxHeartbeats 800000 in
theorem ref_value (v : Value) (l : List UInt8) (w : World) (hv : IsBytes w v l) (h4 : 4 ≤ l.length) :
    Calls Try.prog 32 #[v] w fun e w' => e = .returned (.int .i64 (value4 l : Nat)) ∧ ∃ n, w' = w.drewN n := by
  obtain ⟨a, c, rfl, hr, h0, h1, h2⟩ := hv
  obtain ⟨b, o, rfl, c0⟩ := hr.at 0 (by simp; omega)
  obtain ⟨_, _, e, c1⟩ := hr.at 1 (by simp; omega)
  simp only [Option.some.injEq, Addr.mk.injEq] at e
  obtain ⟨rfl, rfl, _⟩ := e
  obtain ⟨_, _, e, c2⟩ := hr.at 2 (by simp; omega)
  simp only [Option.some.injEq, Addr.mk.injEq] at e
  obtain ⟨rfl, rfl, _⟩ := e
  obtain ⟨_, _, e, c3⟩ := hr.at 3 (by simp; omega)
  simp only [Option.some.injEq, Addr.mk.injEq] at e
  obtain ⟨rfl, rfl, _⟩ := e
  simp only [List.getElem_map, Nat.add_zero] at c0 c1 c2 c3
  have hval : Hid (value4 l = l[0].toNat + 256 * l[1].toNat + 65536 * l[2].toNat + 16777216 * l[3].toNat) := by
    show _ = _
    unfold value4
    simp [show 0 < l.length by omega, show 1 < l.length by omega, show 2 < l.length by omega, show 3 < l.length by omega]
  generalize l[0] = x0 at *
  generalize l[1] = x1 at *
  generalize l[2] = x2 at *
  generalize l[3] = x3 at *
  have y0 := x0.toNat_lt
  have y1 := x1.toNat_lt
  have y2 := x2.toNat_lt
  have y3 := x3.toNat_lt
  clear hr h0
  have i0 : (0 : Int) < (l.length : Int) := by omega
  have i1 : (1 : Int) < (l.length : Int) := by omega
  have i2 : (2 : Int) < (l.length : Int) := by omega
  have i3 : (3 : Int) < (l.length : Int) := by omega
  go_enter Try.func32, Try.ntmps32
  go_wp2_with fail
  go_quiet (fail)
  go_wp2
  go_ret
  refine ⟨ret_v (int_v ?_), nq, rfl⟩
  rw [hval.out]; omega

set_option maxHeartbeats 800000 in
theorem wire_frame (v : Value) (p : List UInt8) (w : World) (hv : IsBytes w v p) :
    Calls Try.prog 19 #[v] w fun e w' => ∃ v, e = .returned (.tuple #[v, .int .i64 (frameErr p)]) ∧ w'.ownsRow w.heap.size 5 1 v (frameBytes p).length ((frameBytes p).map byt) ∧ Below w.heap.size w w' := by
  have HV := hid hv
  obtain ⟨a, c, rfl, hr, _⟩ := hv
  clear hr
  by_cases hp : p.length ≤ 65536
  rotate_left
  · have he : Hid (frameErr p = 14) := if_neg hp
    have hb : Hid (frameBytes p = []) := if_neg hp
    clear HV
    go_enter Try.func19, Try.ntmps19
    go_wp2_with fail
    go_ret2
    exact ⟨_, by rw [he.out]; rfl, by rw [hb.out]; exact World.ownsRow_nil _ _ _ _, Below.refl _ _⟩
  · have he : Hid (frameErr p = 0) := if_pos hp
    have hb : Hid (frameBytes p = frameOf p) := if_pos hp
    go_enter Try.func19, Try.ntmps19
    go_wp2_with fail
    refine (wire_four p.length _ (by omega)).mono ?_
    rintro e w1 ⟨v1, rfl, ho1, hb1⟩
    have O1 := hid ho1
    have B1 := hid hb1
    have V1 := hid (HV.out.below hb1)
    have S1 := hid hb1.size
    clear ho1 hb1
    go_wp2_with fail
    refine (wire_four p.length _ (by omega)).mono ?_
    rintro e w2 ⟨v2, rfl, ho2, hb2⟩
    have O2 := hid ho2
    have B2 := hid hb2
    have V2 := hid (V1.out.below hb2)
    have S2 := hid hb2.size
    clear ho2 hb2
    go_wp2_with (at_builtin; refine wpList_app_bytes rfl (.tmp 14) (.tmp 15) 22 rfl w1.heap.size 5 Try.underlying22 info5 _ _ (four p.length) p rfl O2.out rfl V2.out (by rw [four_length]; omega) S2.out ?_; intro v3 w3 ho3 hb3; refine Stop.mk ?_)
    have I3 := hid (owns_bytes ho3)
    have B3 := hid (B2.out.trans hb3)
    have S3 := hid (Nat.le_trans S2.out hb3.size)
    clear ho3 hb3 O2 B2 V2 S2
    refine Stop.go ?_
    obtain ⟨a3, c3, rfl, hr3, _⟩ := I3.out
    have R3 := hid hr3
    clear hr3
    go_wp2_with fail
    refine (wire_sum _ _ _ (four p.length ++ p) _ (by simp [four_length]) (by simp [four_length]; omega) R3.out).mono ?_
    rintro e w4 ⟨rfl, rfl⟩
    go_wp2_with fail
    refine (wire_four _ _ (sumOf_lt _)).mono ?_
    rintro e w4 ⟨v4, rfl, ho4, hb4⟩
    have B4 := hid (below_step B3.out S3.out hb4)
    have I4 := hid (owns_bytes (l := four (sumOf (four p.length ++ p))) ho4)
    have O4 := hid (owns_below O1.out B4.out)
    have V4 := hid (V1.out.below B4.out)
    have S4 := hid (Nat.le_trans S1.out B4.out.size)
    have B4' := hid (below_step B1.out S1.out B4.out)
    clear ho4 hb4 B3 B4 R3 I3 S3 O1 V1 S1 B1
    go_wp2_with (at_builtin; refine wpList_app_bytes rfl (.tmp 19) (.tmp 20) 22 rfl w.heap.size 5 Try.underlying22 info5 _ _ (four p.length) (four (sumOf (four p.length ++ p))) rfl O4.out rfl I4.out (by simp [four_length]) S4.out ?_; intro v5 w5 ho5 hb5; refine Stop.mk ?_)
    have O5 := hid ho5
    have B5 := hid (B4'.out.trans hb5)
    have V5 := hid (HV.out.below (B4'.out.trans hb5))
    have S5 := hid (Nat.le_trans S4.out hb5.size)
    clear ho5 hb5 O4 I4 V4 S4 B4' HV
    refine Stop.go ?_
    go_wp2_with (at_builtin; refine wpList_app_bytes rfl (.tmp 21) (.tmp 22) 22 rfl w.heap.size 5 Try.underlying22 info5 _ _ (four p.length ++ four (sumOf (four p.length ++ p))) p rfl O5.out rfl V5.out (by rw [List.length_append, four_length, four_length]; omega) S5.out ?_; intro v6 w6 ho6 hb6; refine Stop.mk ?_)
    have O6 := hid ho6
    have B6 := hid (B5.out.trans hb6)
    clear ho6 hb6 O5 B5 V5 S5
    refine Stop.go ?_
    go_wp2
    go_ret2
    refine ⟨v6, ?_, ?_, B6.out⟩
    · rw [he.out]; rfl
    · rw [hb.out, frameOf]; exact O6.out

set_option maxHeartbeats 800000 in
theorem ref_frame (v : Value) (p : List UInt8) (w : World) (hv : IsBytes w v p) :
    Calls Try.prog 20 #[v] w fun e w' => ∃ v, e = .returned (.tuple #[v, .int .i64 (frameErr p)]) ∧ w'.ownsRow w.heap.size 5 1 v (frameBytes p).length ((frameBytes p).map byt) ∧ Below w.heap.size w w' := by
  have HV := hid hv
  obtain ⟨a, c, rfl, hr, _⟩ := hv
  clear hr
  by_cases hp : p.length ≤ 65536
  rotate_left
  · have he : Hid (frameErr p = 14) := if_neg hp
    have hb : Hid (frameBytes p = []) := if_neg hp
    clear HV
    go_enter Try.func20, Try.ntmps20
    go_wp2_with fail
    go_ret2
    exact ⟨_, by rw [he.out]; rfl, by rw [hb.out]; exact World.ownsRow_nil _ _ _ _, Below.refl _ _⟩
  · have he : Hid (frameErr p = 0) := if_pos hp
    have hb : Hid (frameBytes p = frameOf p) := if_pos hp
    go_enter Try.func20, Try.ntmps20
    go_wp2_with fail
    refine (ref_four p.length _ (by omega)).mono ?_
    rintro e w1 ⟨v1, rfl, ho1, hb1⟩
    have I1 := hid (owns_bytes (l := four p.length) ho1)
    have B1 := hid hb1
    have V1 := hid (HV.out.below hb1)
    have S1 := hid hb1.size
    obtain ⟨a1, c1, rfl, _⟩ := owns_bytes (l := four p.length) ho1
    clear ho1 hb1
    go_wp2_with fail
    refine (ref_four p.length _ (by omega)).mono ?_
    rintro e w2 ⟨v2, rfl, ho2, hb2⟩
    have I2 := hid (owns_bytes (l := four p.length) ho2)
    have I12 := hid (I1.out.below hb2)
    have V2 := hid (V1.out.below hb2)
    have B2 := hid (below_step B1.out S1.out hb2)
    have S2 := hid (Nat.le_trans S1.out hb2.size)
    obtain ⟨a2, c2, rfl, _⟩ := owns_bytes (l := four p.length) ho2
    clear ho2 hb2 I1 B1 V1 S1
    go_wp2_with fail
    have hB : Hid (Below w2.heap.size w2 (w2.alloc (.cells #[.slice a2 (four p.length).length c2, .slice a p.length c] 22))) := (Below.refl _ _).alloc (Nat.le_refl _) _
    refine (ref_join _ _ [.slice a2 (four p.length).length c2, .slice a p.length c] [four p.length, p] _ (RowAt.new w2 #[.slice a2 (four p.length).length c2, .slice a p.length c] _ _)
      (allBytes_cons (I2.out.below hB.out) (allBytes_cons (V2.out.below hB.out) (allBytes_nil _))) (by simp [four_length]; omega) (by simp)).mono ?_
    rintro e w3 ⟨v3, rfl, ho3, hb3⟩
    simp only [List.flatten_cons, List.flatten_nil, List.append_nil] at ho3
    have hb23 := below_step hB.out (by simp) hb3
    obtain ⟨a3, c3, rfl, hr3, _⟩ := owns_bytes ho3
    have R3 := hid hr3
    have I13 := hid (I12.out.below hb23)
    have V3 := hid (V2.out.below hb23)
    have B3 := hid (below_step B2.out S2.out hb23)
    have S3 := hid (Nat.le_trans S2.out hb23.size)
    clear ho3 hb3 hr3 hb23 hB I2 I12 V2 B2 S2
    go_wp2_with fail
    refine (ref_sum _ _ _ (four p.length ++ p) _ (by simp [four_length]) (by simp [four_length]; omega) R3.out).mono ?_
    rintro e w4 ⟨rfl, rfl⟩
    go_wp2_with fail
    refine (ref_four _ _ (sumOf_lt _)).mono ?_
    rintro e w4 ⟨v4, rfl, ho4, hb4⟩
    have I4 := hid (owns_bytes (l := four (sumOf (four p.length ++ p))) ho4)
    have I14 := hid (I13.out.below hb4)
    have V4 := hid (V3.out.below hb4)
    have B4 := hid (below_step B3.out S3.out hb4)
    have S4 := hid (Nat.le_trans S3.out hb4.size)
    obtain ⟨a4, c4, rfl, _⟩ := owns_bytes (l := four (sumOf (four p.length ++ p))) ho4
    clear ho4 hb4 I13 V3 B3 S3 R3
    go_wp2_with fail
    have hB : Hid (Below w4.heap.size w4 (w4.alloc (.cells #[.slice a1 (four p.length).length c1, .slice a4 (four (sumOf (four p.length ++ p))).length c4, .slice a p.length c] 22))) := (Below.refl _ _).alloc (Nat.le_refl _) _
    refine (ref_join _ _ [.slice a1 (four p.length).length c1, .slice a4 (four (sumOf (four p.length ++ p))).length c4, .slice a p.length c] [four p.length, four (sumOf (four p.length ++ p)), p] _
      (RowAt.new w4 #[.slice a1 (four p.length).length c1, .slice a4 (four (sumOf (four p.length ++ p))).length c4, .slice a p.length c] _ _)
      (allBytes_cons (I14.out.below hB.out) (allBytes_cons (I4.out.below hB.out) (allBytes_cons (V4.out.below hB.out) (allBytes_nil _)))) (by simp [four_length]; omega) (by simp)).mono ?_
    rintro e w5 ⟨v5, rfl, ho5, hb5⟩
    simp only [List.flatten_cons, List.flatten_nil, List.append_nil] at ho5
    have B5 := hid (below_step B4.out S4.out (below_step hB.out (by simp) hb5))
    have O5 := hid (owns_base (base' := w.heap.size) ho5 (by have := S4.out; simp; omega))
    clear ho5 hb5 hB I14 I4 V4 B4 S4 HV
    go_wp2_with fail
    go_ret2
    refine ⟨v5, ?_, ?_, B5.out⟩
    · rw [he.out]; rfl
    · rw [hb.out, frameOf, List.append_assoc]; exact O5.out

end Go.Proofs.Ytimickmlmlihpaa
