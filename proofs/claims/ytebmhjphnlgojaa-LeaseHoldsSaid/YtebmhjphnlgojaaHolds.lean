/-
  LeaseHolds.
-/
import Derived.Test.YtebmhjphnlgojaaAwake18
import Derived.Test.YtebmhjphnlgojaaArgs
import Derived.Deep.QuietTactic
import Derived.BigQuiet
import Derived.Deep.DeepCutAuto
import Derived.Deep.CutBlock
namespace Go.Proofs.Ytebmhjphnlgojaa.leaseHolds
open Go.RowKit
set_option maxRecDepth 20000
set_option linter.unusedVariables false

theorem drew_obj {w : World} {b : Nat} {t : TypeId} {cs : Array Value} (h : ObjAt w b t cs) : ObjAt w.drew b t cs := h
theorem renewed_ok {p q u s n : Int} (hr : RightD p q) (hl : RightL n) (ht : RightT s) : renewed p q u s n = max u (s + (n * q).tdiv p) ∧ renewedE p q s n = 0 := by
  unfold renewed renewedE; rw [if_pos ⟨hr, hl, ht⟩, if_pos hr, if_pos hl, if_pos ht]; exact ⟨rfl, rfl⟩
theorem renewed_noL {p q u s n : Int} (hr : RightD p q) (hl : ¬RightL n) : renewed p q u s n = u ∧ renewedE p q s n = 153 := by
  unfold renewed renewedE; rw [if_neg (fun h => hl h.2.1), if_pos hr, if_neg hl]; exact ⟨rfl, rfl⟩
theorem renewed_noT {p q u s n : Int} (hr : RightD p q) (hl : RightL n) (ht : ¬RightT s) : renewed p q u s n = u ∧ renewedE p q s n = 63 := by
  unfold renewed renewedE; rw [if_neg (fun h => ht h.2.2), if_pos hr, if_pos hl, if_neg ht]; exact ⟨rfl, rfl⟩

set_option maxHeartbeats 3200000 in
theorem walk (p q ask : Int) (a1 a2 : Option Addr) (c1 c2 : Nat) (ss ls : List Int) (w : World) (hs : RowAt w a1 (ss.map (Value.int .i64))) (hl : RowAt w a2 (ls.map (Value.int .i64))) (hls : ls.length ≤ maxLen) (hss : ss.length ≤ maxLen) :
    Calls Try.prog 4 #[.agg #[.int .i64 p, .int .i64 q, .slice a1 ss.length c1, .slice a2 ls.length c2, .int .i64 ask]] w fun e w' => e = .returned (.bool true) ∧ Below w.heap.size w w' := by
  have HRS := hid hs
  have HRL := hid hl
  clear hs hl
  unfold maxLen at hls hss
  go_enter Try.func4, Try.ntmps4
  go_wp2_with fail
  go_region
  go_wp2_with fail
  have hz : (w.alloc (.cells #[.int .i64 p, .int .i64 q, .slice a1 ss.length c1, .slice a2 ls.length c2, .int .i64 ask] 38)).heap.size = w.heap.size + 1 := by unfold World.alloc; simp
  have HO := hid (drew_obj (ObjAt.new (w.alloc (.cells #[.int .i64 p, .int .i64 q, .slice a1 ss.length c1, .slice a2 ls.length c2, .int .i64 ask] 38)) 23 #[.int .i64 p, .int .i64 q]))
  rw [hz] at HO
  have HB := hid ((((Below.refl w.heap.size w).alloc (Nat.le_refl _) (.cells #[.int .i64 p, .int .i64 q, .slice a1 ss.length c1, .slice a2 ls.length c2, .int .i64 ask] 38)).alloc (by omega) (.cells #[.int .i64 p, .int .i64 q] 23)).drew)
  have hdw : w.heap.size ≤ w.heap.size + 1 := by omega
  clear hz
  generalize ((w.alloc (.cells #[.int .i64 p, .int .i64 q, .slice a1 ss.length c1, .slice a2 ls.length c2, .int .i64 ask] 38)).alloc (.cells #[.int .i64 p, .int .i64 q] 23)).drew = W1 at HO HB ⊢
  generalize w.heap.size + 1 = d at *
  refine (new_holder p q _).mono ?_
  rintro e w2 ⟨hb, h1, h0⟩
  have HO2 := hid (ObjAt.below HO.out hb)
  have HB2 := hid (below_step HB.out HB.out.size hb)
  have hd := ObjAt.lt HO.out
  have c0 := ObjAt.cell HO2.out 0 (.int .i64 p) rfl
  have c1 := ObjAt.cell HO2.out 1 (.int .i64 q) rfl
  by_cases hr : RightD p q
  · obtain ⟨b, rfl, hb2, hh⟩ := h1 hr
    have HH := hid hh
    have HR := hid hr
    have hbs : w.heap.size ≤ b := Nat.le_trans HB.out.size hb2
    have hdb : d ≠ b := by omega
    clear h1 h0 hb2 hh hb hr HO HB hd
    go_wp2_with fail
    refine (ref_right p q _).mono ?_
    rintro e w3 ⟨rfl, rfl⟩
    rw [decide_eq_true HR.out]
    clear c0 c1
    go_wp2_with fail
    go_loopw [9, 49] (fun u i wr => ∃ (k : Nat) (U : Int), i = .int .i64 k ∧ k ≤ ls.length ∧ u = .int .i64 U ∧ 0 ≤ U ∧ Hid (HAt wr b p q U) ∧ Hid (ObjAt wr d 23 #[.int .i64 p, .int .i64 q]) ∧ Hid (Below w.heap.size w wr)) (fun _ i _ => ls.length - (intOf i).toNat)
    case atStart => exact ⟨0, 0, rfl, Nat.zero_le _, rfl, Int.le_refl _, HH, HO2, HB2⟩
    case round =>
      obtain ⟨k, U, rfl, hk, rfl, hU, HH, HO, HB⟩ := hrel
      clear HO2 HB2
      by_cases hlt : k < ls.length
      · obtain ⟨bl, ol, rfl, hcell⟩ := HRL.out.at k (by simpa using hlt)
        simp only [List.getElem_map] at hcell
        have hcw := (HB.out.cell (p := ⟨bl, ol + k, none⟩) (lt_of_cell hcell)).trans hcell
        clear hcell HRL
        generalize ls[k] = n at hcw
        by_cases hks : k < ss.length
        · obtain ⟨bs, os, rfl, hcell⟩ := HRS.out.at k (by simpa using hks)
          simp only [List.getElem_map] at hcell
          have hsw := (HB.out.cell (p := ⟨bs, os + k, none⟩) (lt_of_cell hcell)).trans hcell
          have HCS := hid hcell
          clear hcell HRS
          generalize ss[k] = s at hsw HCS
          go_wp2_with fail
          refine (holder_renewed b p q U s n _ HH.out).mono ?_
          rintro e w4 ⟨rfl, hh, hk4⟩
          have HH4 := hid hh
          have HO4 := hid (ObjAt.kept HO.out hk4 hdb)
          have HB4 := hid (below_kept HB.out hk4 hbs HB.out.size)
          have hsw := (HB4.out.cell (p := ⟨bs, os + k, none⟩) (lt_of_cell HCS.out)).trans HCS.out
          clear hh hk4 HH HO HB hcw HCS
          have hV : 0 ≤ renewed p q U s n := by
            unfold renewed
            split
            · omega
            · exact hU
          have HV := hid hV
          clear hV
          go_upto_block 2 with fail
          go_cut [9, 12] from 50 to 115 (fun s9 s12 wx => s9 = .int .i64 (renewed p q U s n) ∧ Hid (HAt wx b p q (renewed p q U s n)) ∧ Hid (ObjAt wx d 23 #[.int .i64 p, .int .i64 q]) ∧ Hid (Below w.heap.size w wx))
          case first =>
            by_cases hl : RightL n
            · by_cases ht : RightT s
              · have HE := hid (renewed_ok (u := U) HR.out hl ht).1
                rw [(renewed_ok (u := U) HR.out hl ht).2]
                have hl1 := hl.1
                have hl2 := hl.2
                have HC := hid (fun w => (ref_hold p q n w HR.out hl).mono (fun e w' h => (⟨h.1, h.2.symm⟩ : _ ∧ w' = w)))
                have hkb := hold_bound HR.out hl
                have ht1 := ht.1
                have ht2 := ht.2
                have HT := hid ht
                clear hl ht
                generalize (n * q).tdiv p = z at HE HC hkb
                have hw : wrap64 (s + z) = s + z := w64 (by omega) (by omega)
                go_wp2_with fail
                refine (ref_time s _).mono ?_
                rintro e w5 ⟨rfl, rfl⟩
                rw [decide_eq_true HT.out]
                have d0 := ObjAt.cell HO4.out 0 (.int .i64 p) rfl
                have d1 := ObjAt.cell HO4.out 1 (.int .i64 q) rfl
                by_cases hm : U < s + z
                · have HM := hid (show max U (s + z) = s + z from by omega)
                  go_wp2_with fail
                  have hi1 : (0 : Int) ≤ (k : Int) := by omega
                  have hi2 : (k : Int) < (ss.length : Int) := by omega
                  go_quiet (first | (go_at_call 14; refine Calls.quiet_of_same (HC.out _)))
                  go_wp2
                  go_meet
                  case rel => exact ⟨by rw [HE.out, HM.out], HH4, HO4, hid (HB4.out.trans (below_drewN' (B := w.heap.size) (w := w4) nq))⟩
                · have HM := hid (show max U (s + z) = U from by omega)
                  go_wp2_with fail
                  have hi1 : (0 : Int) ≤ (k : Int) := by omega
                  have hi2 : (k : Int) < (ss.length : Int) := by omega
                  go_quiet (first | (go_at_call 14; refine Calls.quiet_of_same (HC.out _)))
                  go_wp2
                  go_meet
                  case rel => exact ⟨by rw [HE.out, HM.out], HH4, HO4, hid (HB4.out.trans (below_drewN' (B := w.heap.size) (w := w4) nq))⟩
              · have HE := hid (renewed_noT (u := U) HR.out hl ht).1
                rw [(renewed_noT (u := U) HR.out hl ht).2]
                have hl1 := hl.1
                have hl2 := hl.2
                have HT := hid ht
                clear hl ht
                go_wp2_with fail
                refine (ref_time s _).mono ?_
                rintro e w5 ⟨rfl, rfl⟩
                rw [decide_eq_false HT.out]
                go_wp2
                go_meet
                case rel => exact ⟨by rw [HE.out], HH4, HO4, HB4⟩
            · have HE := hid (renewed_noL (s := s) (u := U) HR.out hl).1
              rw [(renewed_noL (s := s) (u := U) HR.out hl).2]
              by_cases hn : n < 1
              · clear hl
                go_wp2
                go_meet
                case rel => exact ⟨by rw [HE.out], HH4, HO4, HB4⟩
              · have hn2 : 1048576 < n := by
                  exact Int.not_le.mp (fun h => hl ⟨by omega, h⟩)
                clear hl
                go_wp2
                go_meet
                case rel => exact ⟨by rw [HE.out], HH4, HO4, HB4⟩
          case rest =>
            obtain ⟨rfl, HH6, HO6, HB6⟩ := hcut
            clear HH4 HO4 HB4 hsw
            generalize renewed p q U s n = V at HH6 HV
            have hV := HV.out
            go_wp2_with fail
            refine (holder_until b p q _ _ HH6.out).mono ?_
            rintro e wx ⟨rfl, rfl⟩
            go_wp2_with fail
            refine (holder_valid b p q _ ask _ HH6.out).mono ?_
            rintro e wx ⟨rfl, rfl⟩
            go_wp2_with fail
            refine (ref_time ask _).mono ?_
            rintro e wx ⟨rfl, rfl⟩
            by_cases ha : RightT ask
            · rw [decide_eq_true ha]
              clear ha
              go_wp2
              go_roundw
              case rel => first | exact ⟨k + 1, V, by go_num, by omega, rfl, hV, HH6, HO6, HB6⟩ | ((repeat apply Exists.intro); exact ⟨⟨k + 1, V, by go_num, by omega, rfl, hV, HH6, HO6, HB6⟩, rfl⟩)
              case measure => simp [intOf]; omega
            · rw [decide_eq_false ha]
              clear ha
              go_wp2
              go_roundw
              case rel => first | exact ⟨k + 1, V, by go_num, by omega, rfl, hV, HH6, HO6, HB6⟩ | ((repeat apply Exists.intro); exact ⟨⟨k + 1, V, by go_num, by omega, rfl, hV, HH6, HO6, HB6⟩, rfl⟩)
              case measure => simp [intOf]; omega
        · clear HRS
          go_wp2_with fail
          refine (holder_valid b p q U (-1) _ HH.out).mono ?_
          rintro e wx ⟨rfl, rfl⟩
          rw [decide_eq_false (show ¬RightT (-1) from fun h => by have := h.1; omega)]
          go_wp2_with fail
          refine (awake18 _).mono ?_
          rintro e wx ⟨rfl, hb⟩
          have HB9 := hid (below_step HB.out HB.out.size hb)
          clear hb HB
          go_wp2
          go_ret
          exact ⟨rfl, HB9.out⟩
      · clear HRS HRL
        have hke : k = ls.length := by omega
        subst hke
        go_wp2_with fail
        refine (holder_valid b p q U (-1) _ HH.out).mono ?_
        rintro e wx ⟨rfl, rfl⟩
        rw [decide_eq_false (show ¬RightT (-1) from fun h => by have := h.1; omega)]
        go_wp2_with fail
        refine (awake18 _).mono ?_
        rintro e wx ⟨rfl, hb⟩
        have HB9 := hid (below_step HB.out HB.out.size hb)
        clear hb HB
        go_wp2
        go_ret
        exact ⟨rfl, HB9.out⟩
  · obtain rfl := h0 hr
    have HR := hid hr
    clear h1 h0 hb hr HO HB
    go_wp2_with fail
    refine (ref_right p q _).mono ?_
    rintro e w4 ⟨rfl, rfl⟩
    rw [decide_eq_false HR.out]
    go_wp2_with fail
    refine (awake18 _).mono ?_
    rintro e w4 ⟨rfl, hb⟩
    have HB4 := hid (below_step HB2.out HB2.out.size hb)
    clear hb HB2 HO2 c0 c1
    go_wp2
    go_ret
    exact ⟨rfl, HB4.out⟩
def T : Ty := .pair (.pair (.pair (.int .i64) (.pair (.int .i64) .unit)) (.pair (.slice (.int .i64)) (.pair (.slice (.int .i64)) (.pair (.int .i64) .unit)))) .unit
theorem walk' (W : World) (vs : List Value) (el : T.El) (hr : ArgsRd W T vs el) (hf : Fit T el) : Calls Try.prog 4 vs.toArray W fun e w' => e = .returned (.bool true) ∧ Below W.heap.size W w' := by
  obtain ⟨v, r, cs, rfl, hv, hx, rfl⟩ := hr
  obtain ⟨c1, c2, rfl, -, ⟨c3, c4, rfl, -, ⟨rfl, -⟩, c5, c6, rfl, -, ⟨rfl, -⟩, rfl⟩, ⟨c7, c8, rfl, h7, h2, c9, c10, rfl, h9, h3, c11, c12, rfl, -, ⟨rfl, -⟩, rfl⟩⟩ := hx
  obtain ⟨v7, rfl⟩ := List.length_eq_one_iff.mp h7
  obtain ⟨v9, rfl⟩ := List.length_eq_one_iff.mp h9
  obtain ⟨a1, k1, rfl, -, l1, m1, r1⟩ := ints_of_rd h2
  obtain ⟨a2, k2, rfl, -, l2, m2, r2⟩ := ints_of_rd h3
  have hv' : v = .agg _ := hv
  rw [hv']
  exact walk _ _ _ _ _ _ _ _ _ W r1 r2 (by omega) (by omega)

theorem own : ownKnob Try.prog.godebug = none := by kernel_rfl
theorem laidOut : laidOutB Try.prog = true := by kernel_rfl

set_option maxRecDepth 100000 in
theorem lifted (os : Os) (started : os.Started) (H : Type) (enc : TypeId × Value → H) :
    ReturnsInHanded {} Try.checked os 4 .any (Rows.leaseHoldsSpec.pre6 enc Try.prog Try.f4 Rows.leaseHoldsRow.domain false) (Rows.leaseHoldsSpec.post enc Try.prog Try.f4 false true false false) := by
  refine returnsInHanded_of_change_sized (C := Try.checked) own started (by kernel_rfl) Try.func4
    (ChangeSpec.witness6 (enc := enc) (C := Try.checked) false ⟨#[], #[.agg #[.int .i64 0, .int .i64 0, .slice none 0 0, .slice none 0 0, .int .i64 0]], []⟩ 16 (by kernel_rfl) (by kernel_rfl) (by kernel_rfl) (by kernel_rfl)) ?_
  intro W base args ds gs before hval hW _ hsz _
  exact law_said T (by kernel_rfl) laidOut (by kernel_rfl) rfl rfl Try.underlying4 (fun ds h => by
    match ds, h with
    | [d0], _ => rfl) walk' W base args ds gs before hval hW hsz

theorem over : Rows.leaseHoldsRow.holds Try.pinned (OpenSpec.ofChange Rows.leaseHoldsSpec) :=
  OpenClaim.holds_of_wide 4 Try.f4 rfl rfl rfl rfl rfl rfl rfl ⟨rfl, rfl, rfl, rfl, rfl⟩ rfl rfl rfl rfl rfl (by kernel_rfl) Try.func4 (by kernel_rfl)
    (of_decide_eq_true (by kernel_rfl)) (by unfold Func.isWrapper; first | (rw [if_pos (by decide +kernel)]; kernel_rfl) | (rw [if_neg (by decide +kernel)]; exact ⟨rfl, rfl⟩))
    (fun os started H enc _ => lifted os started H enc)

theorem proved : Rows.LeaseHoldsSaid := over
#print axioms proved
end Go.Proofs.Ytebmhjphnlgojaa.leaseHolds
