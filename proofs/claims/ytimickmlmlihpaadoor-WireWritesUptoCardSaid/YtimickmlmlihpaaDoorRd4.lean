/-
  althingref01.Reader: Blob.
-/
import Derived.Test.YtimickmlmlihpaaDoorRd3
import Derived.Deep.RegionWith
import Derived.IntWalk
namespace Go.Proofs.YtimickmlmlihpaaDoor
open Go.RowKit
set_option maxRecDepth 100000
set_option linter.unusedVariables false

theorem undrew' {B : Nat} {w w' : World} (h : Below B w.drew w') : Below B w w' := ⟨h.os, h.tape, h.output, h.size, h.block⟩
/-- What the document's Blob leaves. -/
def RBlobPost (w : World) (d : Nat) (B : List UInt8) (t : List UInt8 × RSt) (e : Ending) (w' : World) : Prop := ∃ v, e = .returned v ∧ IsBytes w' v t.1 ∧ RfAt w' d B t.2 ∧ Kept w.heap.size d w w'

set_option maxHeartbeats 6400000 in
theorem rf_blob (d : Nat) (B : List UInt8) (s : RSt) (w : World) (h : RfAt w d B s) (hm : B.length ≤ 140737488355328) : Calls Tryd.prog 19 #[.pointer (some ⟨d, 0, none⟩)] w (RBlobPost w d B (rdBlob s)) := by
  have HH := hid h
  obtain ⟨v, n0, ho, hb, hn, hl⟩ := h
  have c1 := ho.cell 1 _ rfl
  obtain ⟨n, hnn⟩ := rdNum_nat s
  obtain ⟨q, hq⟩ : ∃ q, q = rdBlob s := ⟨_, rfl⟩
  rw [← hq]
  have HQ : Hid (q = if (rdNum s).2.2 = 0 then (if (rdNum s).2.1.length < n then ([], s.1, 12) else ((rdNum s).2.1.take n, (rdNum s).2.1.drop n, 0)) else ([], (rdNum s).2)) := by
    show _ = _
    rw [hq]; unfold rdBlob; rw [hnn, Int.toNat_natCast]
  have HE : Hid (rdNum s = ((n : Int), (rdNum s).2)) := by show _ = _; rw [← hnn]
  have HL := hid hl
  clear ho hb hnn hq hl
  generalize (rdNum s).2 = s1 at *
  obtain ⟨l1, e1⟩ := s1
  go_enter Tryd.func19, Tryd.ntmps19
  go_wp2_with fail
  refine (rf_num d B s w HH.out).mono ?_
  rintro e w1 ⟨rfl, h1, hk⟩
  rw [HE.out] at h1 ⊢
  have HK1 := hid hk
  have hz1 : w.heap.size ≤ w1.heap.size := hk.size
  have HR1 := hid h1
  obtain ⟨v1, n1, ho1, hb1, hn1, hl1⟩ := h1
  clear hk c1 HE HH
  dsimp only at ho1 hl1
  have HO1 := hid ho1
  have HB1 := hid hb1
  have HL1 := hid hl1
  have c0 := ho1.cell 0 _ rfl
  have c1 := ho1.cell 1 _ rfl
  have c2 := ho1.cell 2 _ rfl
  have f1 := ho1.frozen 1
  have f2 := ho1.frozen 2
  have hll : l1.length = B.length - n1 := by rw [hl1, List.length_drop]
  have HLL := hid hll
  obtain ⟨va, vc, rfl, -, h0, hc1, hc2⟩ := id hb1
  clear ho1 hb1 hl1
  by_cases he : e1 = 0
  · subst he
    by_cases hlt : l1.length < n
    · have HQ' : Hid (q = ([], s.1, 12)) := by show _ = _; rw [HQ.out, if_pos rfl, if_pos hlt]
      clear hll
      go_wp2_with fail
      refine (rf_left d B _ w1 HR1.out).mono ?_
      rintro e w2 ⟨rfl, nq, rfl⟩
      have HW := hid (below_drewN' (B := w1.heap.size) (w := w1) nq)
      have HO2 := hid (HO1.out.below HW.out)
      have HB2 := hid (HB1.out.below HW.out)
      have hk := (Kept.set (B := w1.heap.size) (w1.drewN nq) ⟨d, 2, none⟩ (.int .i64 12)).trans (Kept.set ((w1.drewN nq).setCell ⟨d, 2, none⟩ (.int .i64 12)) ⟨d, 1, none⟩ (.int .i64 (n0 : Nat)))
      have Q1 : Hid (RfAt (((w1.drewN nq).setCell ⟨d, 2, none⟩ (.int .i64 12)).setCell ⟨d, 1, none⟩ (.int .i64 (n0 : Nat))) d B (s.1, 12)) :=
        ⟨_, n0, (HO2.out.set 2 _).set 1 _, isBytes_keptE HB2.out HO2.out (rf_cells HB2.out _ _) hk, hn, HL.out⟩
      have Q2 := hid (HK1.out.trans (((Kept.of_below HW.out).trans hk).mono hz1))
      clear hk HO1 HB1 HO2 HB2 HR1 HL1 HLL
      go_wp2
      go_ret
      rw [HQ'.out]
      exact ⟨_, rfl, isBytes_nil _, Q1.out, Q2.out⟩
    · have HQ' : Hid (q = (l1.take n, l1.drop n, 0)) := by show _ = _; rw [HQ.out, if_pos rfl, if_neg hlt]
      have hnb : n1 + n ≤ B.length := by omega
      clear hll
      unfold maxLen at hc2
      go_wp2_with fail
      refine (rf_left d B _ w1 HR1.out).mono ?_
      rintro e w2 ⟨rfl, nq, rfl⟩
      have hlt2 : n ≤ l1.length := by omega
      have hd := hid (HR1.out)
      go_wp2_with fail
      have HP := hid (bytes_part HB1.out n1 n hnb)
      rw [← HL1.out] at HP
      have hws : IntKind.i64.wrap ((n1 : Int) + (n : Int)) = ((n1 + n : Nat) : Int) := by rw [IntKind.wrap_i64]; omega
      have hdl := HO1.out.lt
      by_cases hca : vc = n1
      · rw [if_pos hca, show vc - n1 = 0 from by omega] at HP
        have hn0 : n = 0 := by omega
        have HP := hid (show IsBytes w1 (.slice va 0 0) (l1.take n) from by have h := HP.out; rw [hn0] at h ⊢; exact h)
        clear hn0
        go_region_with (
          go_at_call 10
          refine (ref_copy _ (l1.take n) _ ?_ ?_).mono ?_
          exact HP.out.below (below_drewN' _)
          (rw [List.length_take]; omega)
          rintro e w2 ⟨v2, rfl, ho2, hb2⟩
          have HW2 := hid (below_next (below_drewN' (B := w1.heap.size) (w := w1) _) hb2)
          have HV2 := hid (owns_bytes ho2)
          have HN2 : Hid (∀ k, v2.ownBlock = some k → w1.heap.size ≤ k) := fun k e => (ho2.lt k e).1
          have HO2 := hid (HO1.out.below HW2.out)
          have d1 := HO2.out.cell 1 _ rfl
          have g1 := HO2.out.frozen 1
          clear ho2 hb2)
        all_goals
          have hk := Kept.set (B := w2.heap.size) w2 ⟨d, 1, none⟩ (.int .i64 ((n1 : Int) + (n : Int)))
          have Q1 : Hid (RfAt (w2.setCell ⟨d, 1, none⟩ (.int .i64 ((n1 : Int) + (n : Int)))) d B (l1.drop n, 0)) :=
            ⟨_, n1 + n, by rw [Int.natCast_add]; exact HO2.out.set 1 _, isBytes_keptE (HB1.out.below HW2.out) HO2.out (rf_cells HB1.out _ _) hk, hnb, by rw [HL1.out, List.drop_drop]⟩
          have Q2 := hid (HK1.out.trans (((Kept.of_below HW2.out).trans (hk.mono HW2.out.size)).mono hz1))
          have Q3 := hid (isBytes_kept HV2.out hk (fun k e => by show k ≠ d; have h9 := HN2.out k e; exact Nat.ne_of_gt (Nat.lt_of_lt_of_le hdl h9)))
          clear hk
          go_wp2
          go_ret
          rw [HQ'.out]
          exact ⟨_, rfl, Q3.out, Q1.out, Q2.out⟩
      · rw [if_neg hca] at HP
        go_region_with (
          go_at_call 10
          refine (ref_copy _ (l1.take n) _ ?_ ?_).mono ?_
          exact HP.out.below (below_drewN' _)
          (rw [List.length_take]; omega)
          rintro e w2 ⟨v2, rfl, ho2, hb2⟩
          have HW2 := hid (below_next (below_drewN' (B := w1.heap.size) (w := w1) _) hb2)
          have HV2 := hid (owns_bytes ho2)
          have HN2 : Hid (∀ k, v2.ownBlock = some k → w1.heap.size ≤ k) := fun k e => (ho2.lt k e).1
          have HO2 := hid (HO1.out.below HW2.out)
          have d1 := HO2.out.cell 1 _ rfl
          have g1 := HO2.out.frozen 1
          clear ho2 hb2)
        all_goals
          have hk := Kept.set (B := w2.heap.size) w2 ⟨d, 1, none⟩ (.int .i64 ((n1 : Int) + (n : Int)))
          have Q1 : Hid (RfAt (w2.setCell ⟨d, 1, none⟩ (.int .i64 ((n1 : Int) + (n : Int)))) d B (l1.drop n, 0)) :=
            ⟨_, n1 + n, by rw [Int.natCast_add]; exact HO2.out.set 1 _, isBytes_keptE (HB1.out.below HW2.out) HO2.out (rf_cells HB1.out _ _) hk, hnb, by rw [HL1.out, List.drop_drop]⟩
          have Q2 := hid (HK1.out.trans (((Kept.of_below HW2.out).trans (hk.mono HW2.out.size)).mono hz1))
          have Q3 := hid (isBytes_kept HV2.out hk (fun k e => by show k ≠ d; have h9 := HN2.out k e; exact Nat.ne_of_gt (Nat.lt_of_lt_of_le hdl h9)))
          clear hk
          go_wp2
          go_ret
          rw [HQ'.out]
          exact ⟨_, rfl, Q3.out, Q1.out, Q2.out⟩
  · have HQ' : Hid (q = ([], l1, e1)) := by show _ = _; rw [HQ.out, if_neg he]
    have e2 : (e1 == 0) = false := beq_eq_false_iff_ne.2 he
    clear HQ HB1 HO1 hll
    go_wp2
    go_ret
    rw [HQ'.out]
    exact ⟨_, rfl, isBytes_nil _, HR1.out, HK1.out⟩
end Go.Proofs.YtimickmlmlihpaaDoor
