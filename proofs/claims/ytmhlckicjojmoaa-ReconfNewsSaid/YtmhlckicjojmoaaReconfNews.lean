/-
  ReconfNews: an epoch is made just of a right number and members, and so is the next one; its members, their places, and who stays, are as the document says: for every argument.
-/
import Derived.Test.YtmhlckicjojmoaaRec10
import Derived.Test.YtmhlckicjojmoaaAwake19
import Derived.Test.YtmhlckicjojmoaaArgs
import Derived.Deep.DeepCutAuto
import Derived.Deep.CutBlock
namespace Go.Proofs.Ytmhlckicjojmoaa.reconfNews
open Go.RowKit
set_option maxRecDepth 20000
set_option linter.unusedVariables false

theorem same_yes (v1 v2 : Value) (l : List Int) (w : World) (h1 : IsInts w v1 l) (h2 : IsInts w v2 l) (hm : l.length ≤ 4611686018427387904) :
    Calls Try.prog 16 #[v1, v2] w fun e w' => e = .returned (.bool true) ∧ Below w.heap.size w w' :=
  (same_ints v1 v2 l l w h1 h2 hm hm).mono fun e w' h => ⟨by rw [h.1, decide_eq_true rfl], h.2⟩
set_option maxHeartbeats 4000000 in
theorem walk (number ask : Int) (a1 a2 : Option Addr) (c1 c2 : Nat) (ms os : List Int) (w : World) (h1 : RowAt w a1 (ms.map (Value.int .i64))) (h2 : RowAt w a2 (os.map (Value.int .i64))) (z1 : a1 = none → c1 = 0) (z2 : a2 = none → c2 = 0)
    (l1 : ms.length ≤ c1) (m1 : c1 ≤ maxLen) (l2 : os.length ≤ c2) (m2 : c2 ≤ maxLen) (hm1 : ms.length * 8 ≤ 140737488355328) (hm2 : os.length * 8 ≤ 140737488355328) :
    Calls Try.prog 3 #[.agg #[.int .i64 number, .slice a1 ms.length c1, .slice a2 os.length c2, .int .i64 ask]] w fun e w' => e = .returned (.bool true) ∧ Below w.heap.size w w' := by
  have HM := hid h1
  have HOS := hid h2
  clear h1 h2
  go_enter Try.func3, Try.ntmps3
  go_wp2_with fail
  have HK := hid (ObjAt.new w 24 #[.int .i64 number, .slice a1 ms.length c1, .slice a2 os.length c2, .int .i64 ask])
  have HB := hid (below_new (w := w) (.cells #[.int .i64 number, .slice a1 ms.length c1, .slice a2 os.length c2, .int .i64 ask] 24))
  have HM1 := hid (HM.out.below HB.out)
  have HOS1 := hid (HOS.out.below HB.out)
  clear HM HOS
  generalize w.alloc (.cells #[.int .i64 number, .slice a1 ms.length c1, .slice a2 os.length c2, .int .i64 ask] 24) = W at HK HB HM1 HOS1 ⊢
  have k0 := ObjAt.cell HK.out 0 (.int .i64 number) rfl
  have k1 := ObjAt.cell HK.out 1 (.slice a1 ms.length c1) rfl
  have k2 := ObjAt.cell HK.out 2 (.slice a2 os.length c2) rfl
  have k3 := ObjAt.cell HK.out 3 (.int .i64 ask) rfl
  go_quiet (fail)
  clear k0 k1 k2 k3 HK
  have HB0 : Hid (Below w.heap.size w (W.drewN nq)) := HB.out.trans (below_drewN' nq)
  have HM0 : Hid (RowAt (W.drewN nq) a1 (ms.map (Value.int .i64))) := HM1.out
  have HOS0 : Hid (RowAt (W.drewN nq) a2 (os.map (Value.int .i64))) := HOS1.out
  clear HB HM1 HOS1
  generalize W.drewN nq = W0 at *
  go_wp2_with fail
  refine (copy_ints a1 c1 ms _ HM0.out hm1).mono ?_
  rintro e w1 ⟨v, rfl, ho, hb⟩
  have HO := hid ho
  have HB1 := hid (below_step HB0.out HB0.out.size hb)
  have HM1 := hid (HM0.out.below hb)
  have HOS1 := hid (HOS0.out.below hb)
  have HBW1 := hid hb
  have hw1 := hb.size
  clear ho hb
  obtain ⟨ai, ci, rfl, hri, hci, -⟩ := owns_row HO.out
  have HRI := hid hri
  have hai : ai = none → ci = 0 := by
    intro e
    subst e
    rcases HO.out.2 with ⟨e, _⟩ | ⟨g, cap, cur, e, _⟩
    · simp only [Value.slice.injEq] at e; exact e.2.2
    · simp at e
  clear hri
  go_wp2_with fail
  refine (rec_new ai ci ms number _ HRI.out hai hm1).mono ?_
  rintro e w2 ⟨hb, hcase⟩
  have HB2 := hid (below_step HB1.out HB1.out.size hb)
  have HM2 := hid (HM1.out.below hb)
  have HOS2 := hid (HOS1.out.below hb)
  have HO2 := hid (owns_below HO.out hb)
  have hcs := hid hcase
  have HBW2 := hid (HBW1.out.trans (hb.mono hw1))
  have HB12 := hid hb
  have HW12 := hid hb.size
  clear hb HB1 HM1 HOS1 HRI hcase
  rcases hcs.out with ⟨g1, rfl⟩ | ⟨g1, g2, rfl⟩ | ⟨g1, g2, b, rfl, g3, g4, g5⟩
  · have hbad : decide (number < 0 ∨ 4611686018427387903 < number) = true := decide_eq_true (by unfold NumIn at g1; omega)
    clear hcs HM2 HOS2 HO2 HO HB0 HM0 HOS0 HBW1 HBW2
    go_wp2_with fail
    refine (bad_int number _).mono ?_
    rintro e w3 ⟨rfl, rfl⟩
    rw [hbad]
    clear hbad g1
    go_wp2_with fail
    refine (awake19 _).mono ?_
    rintro e w5 ⟨rfl, hb⟩
    have HB5 := hid (below_step HB2.out HB2.out.size hb)
    clear hb HB2
    go_wp2_with fail
    go_ret
    exact ⟨rfl, HB5.out⟩
  · have hbad : decide (number < 0 ∨ 4611686018427387903 < number) = false := decide_eq_false (by unfold NumIn at g1; omega)
    clear hcs HOS2 HO2 HO HB0 HM0 HOS0 HBW1 HBW2
    go_wp2_with fail
    refine (bad_int number _).mono ?_
    rintro e w3 ⟨rfl, rfl⟩
    rw [hbad]
    clear hbad g1
    go_wp2_with fail
    refine (refr_right a1 c1 ms _ HM2.out (by omega)).mono ?_
    rintro e w4 ⟨bb, rfl, hbb, hb⟩
    have HB4 := hid (below_step HB2.out HB2.out.size hb)
    obtain rfl : bb = false := by cases bb with | false => rfl | true => exact absurd (hbb.1 rfl) g2
    clear hb HB2 hbb HM2
    go_wp2_with fail
    refine (awake19 _).mono ?_
    rintro e w5 ⟨rfl, hb⟩
    have HB5 := hid (below_step HB4.out HB4.out.size hb)
    clear hb HB4
    go_wp2_with fail
    go_ret
    exact ⟨rfl, HB5.out⟩
  · have hbad : decide (number < 0 ∨ 4611686018427387903 < number) = false := decide_eq_false (by unfold NumIn at g1; omega)
    have HEP := hid g3
    have HKP := hid g5
    obtain ⟨g, cap, cur, heq, q1, q2, q3, q4, q5, q6⟩ := own_obj HO.out g2.2.1
    simp only [Value.slice.injEq, true_and] at heq
    obtain ⟨rfl, rfl⟩ := heq
    have hgl := q1.lt
    have HQ := hid q1
    clear hcs g3 g5 HO HO2 HB2 HM2 HOS2 q1 q4
    have HM2 : Hid (RowAt w2 a1 (ms.map (Value.int .i64))) := HM0.out.below HBW2.out
    go_wp2_with fail
    refine (bad_int number _).mono ?_
    rintro e w3 ⟨rfl, rfl⟩
    rw [hbad]
    clear hbad
    go_wp2_with fail
    refine (refr_right a1 c1 ms _ HM2.out (by omega)).mono ?_
    rintro e w4 ⟨bb, rfl, hbb, hb⟩
    obtain rfl : bb = true := hbb.2 g2
    have HBW4 := hid (HBW2.out.trans (hb.mono (Nat.le_trans hw1 HW12.out)))
    have HQ4 := hid ((HQ.out.below HB12.out).below hb)
    have HK4 := hid (Kept.of_below (b := g) hb)
    clear hb hbb HM2 HBW1 HBW2 HQ
    go_wp2_with fail
    go_loopw [64] (fun i wr => ∃ (k : Nat) (cu : Array Value), i = .int .i64 k ∧ k ≤ ms.length ∧ Hid (ObjAt wr g 3 cu) ∧ cu.size = cur.size ∧ Hid (Kept w2.heap.size g w2 wr) ∧ Hid (Below W0.heap.size W0 wr)) (fun i _ => ms.length - (intOf i).toNat)
    case atStart => exact ⟨0, cur, rfl, Nat.zero_le _, HQ4, rfl, HK4, HBW4⟩
    case round =>
      clear HQ4 HK4 HBW4
      obtain ⟨k, cu, rfl, hk, HQ, hcu, HK, HBW⟩ := hrel
      by_cases hlt : k < ms.length
      · have ck := ObjAt.cell HQ.out k cu[k] (by rw [Array.getElem?_eq_getElem (by omega)])
        have fk := ObjAt.frozen HQ.out k
        have HQ2 := hid (ObjAt.set HQ.out k (.int .i64 (-1)))
        have HK2 := hid (HK.out.trans (Kept.set (B := w2.heap.size) wr ⟨g, k, none⟩ (.int .i64 (-1))))
        have HB2 := hid (HBW.out.trans ((Kept.set (B := W0.heap.size) wr ⟨g, k, none⟩ (.int .i64 (-1))).below q2))
        generalize cu[k] = old at *
        go_wp2_with fail
        go_roundw
        case rel => exact ⟨k + 1, _, by go_num, by omega, HQ2, by simpa using hcu, HK2, HB2⟩
        case measure => simp [intOf]; omega
      · obtain rfl : k = ms.length := by omega
        have HEP5 := hid (HKP.out g wr hgl HK.out)
        have HM5 := hid (HM0.out.below HBW.out)
        have HOS5 := hid (HOS0.out.below HBW.out)
        have HB5 := hid (HB0.out.trans (HBW.out.mono HB0.out.size))
        clear HQ HK HBW HKP HM0 HOS0 HB0
        obtain ⟨ve, hoe, hve⟩ := HEP5.out
        obtain ⟨ae, ce, rfl, hre, hze, -⟩ := hve
        have c0 := ObjAt.cell hoe 0 (.slice ae ms.length ce) rfl
        have HRE := hid hre
        clear hoe hre
        go_wp2_with fail
        refine (ep_place b ms number ask wr HEP5.out g2).mono ?_
        rintro e w5 ⟨rfl, rfl⟩
        go_wp2_with fail
        refine (refr_place a1 c1 ms ask wr HM5.out (by omega)).mono ?_
        rintro e w5 ⟨rfl, rfl⟩
        go_wp2_with fail
        refine (mem_at ae ce ms ask wr HRE.out (by omega)).mono ?_
        rintro e w5 ⟨rfl, rfl⟩
        go_upto_region 21 with fail
        go_cut [17] from 89 to 96 (fun s wx => s = .bool (atB ms ask) ∧ wx = wr)
        case first =>
          by_cases h0 : 0 ≤ ask
          · by_cases h1 : ask < ms.length
            · have hat := hid (show atB ms ask = true from decide_eq_true ⟨h0, h1⟩)
              go_wp2
              go_meet
              case rel => exact ⟨by rw [hat.out], rfl⟩
            · have hat := hid (show atB ms ask = false from decide_eq_false (fun h => h1 h.2))
              go_wp2
              go_meet
              case rel => exact ⟨by rw [hat.out], rfl⟩
          · have hat := hid (show atB ms ask = false from decide_eq_false (fun h => h0 h.1))
            go_wp2
            go_meet
            case rel => exact ⟨by rw [hat.out], rfl⟩
        case rest =>
        obtain ⟨rfl, rfl⟩ := hcut
        go_upto_region 22 with fail
        go_cut [12, 13, 14, 15, 16, 17, 140] from 71 to 140 (fun s12 s13 s14 s15 s16 s17 s wx => s = .bool false ∧ wx = wc)
        case first =>
          have hpl : Hid ((placeI ms ask = -1 ∧ placeP ms ask = 0 ∧ placeB ms ask = false) ∨ ∃ k : Nat, placeI ms ask = k ∧ placeP ms ask = k ∧ placeB ms ask = true) := by
            rcases placeI_cases ms ask with ⟨p1, p2⟩ | ⟨k, hk, p1, p2⟩
            · exact .inl ⟨p1, by unfold placeP; rw [p1]; decide, by unfold placeB; rw [p1]; decide⟩
            · exact .inr ⟨k, p1, by unfold placeP; rw [p1]; omega, by unfold placeB; rw [p1]; exact decide_eq_true (by omega)⟩
          by_cases hin : 0 ≤ ask ∧ ask < ms.length
          · obtain ⟨q, rfl⟩ : ∃ q : Nat, ask = q := ⟨ask.toNat, by omega⟩
            have hq : q < ms.length := by omega
            obtain ⟨mb, mo, rfl, hcq⟩ := HM5.out.at q (by simpa using hq)
            simp only [List.getElem_map] at hcq
            have hat : atI ms q = ms[q] ∧ atB ms q = true := ⟨by unfold atI; rw [if_pos (by omega)]; simp [hq], decide_eq_true (by omega)⟩
            have h0q : (0 : Int) ≤ (q : Int) := hin.1
            have hql := hin.2
            have hxx : (ms[q] == ms[q]) = true := beq_self_eq_true _
            rw [hat.1, hat.2]
            clear hat hin
            generalize ms[q] = x at *
            have hxn : (x != x) = false := by unfold bne; rw [hxx]; rfl
            rcases hpl.out with ⟨p1, p2, p3⟩ | ⟨k, p1, p2, p3⟩
            · rw [p1, p2, p3]
              clear p1 p2 p3 hpl
              go_wp2
              go_meet
              case rel => exact ⟨rfl, rfl⟩
            · rw [p1, p2, p3]
              clear p1 p2 p3 hpl
              have hkk : ((k : Int) == (k : Int)) = true := beq_self_eq_true _
              have hkn : ((k : Int) != (k : Int)) = false := by unfold bne; rw [hkk]; rfl
              go_wp2
              go_meet
              case rel => exact ⟨rfl, rfl⟩
          · have hat : atI ms ask = 0 ∧ atB ms ask = false := ⟨by
              unfold atI
              by_cases h : 0 ≤ ask
              · rw [if_pos h, List.getD_eq_getElem?_getD, List.getElem?_eq_none (by omega)]; rfl
              · rw [if_neg h], decide_eq_false hin⟩
            rw [hat.1, hat.2]
            clear hat hin
            rcases hpl.out with ⟨p1, p2, p3⟩ | ⟨k, p1, p2, p3⟩
            · rw [p1, p2, p3]
              clear p1 p2 p3 hpl
              go_wp2
              go_meet
              case rel => exact ⟨rfl, rfl⟩
            · rw [p1, p2, p3]
              clear p1 p2 p3 hpl
              have hkk : ((k : Int) == (k : Int)) = true := beq_self_eq_true _
              have hkn : ((k : Int) != (k : Int)) = false := by unfold bne; rw [hkk]; rfl
              go_wp2
              go_meet
              case rel => exact ⟨rfl, rfl⟩
        case rest =>
        obtain ⟨rfl, rfl⟩ := hcut
        have h7 : ms.length ≤ 7 := g2.2.2
        have hnn : (number != number) = false := by unfold bne; rw [beq_self_eq_true]; rfl
        have hn0 : 0 ≤ number := g1.1
        have hnm : number < 4611686018427387904 := Int.lt_add_one_of_le g1.2
        go_wp2_with fail
        refine (ep_number b ms number _ HEP5.out).mono ?_
        rintro e w6 ⟨rfl, rfl⟩
        go_wp2_with fail
        refine (mem_members ae ce ms _ HRE.out hze (by omega)).mono ?_
        rintro e w6 ⟨v6, rfl, ho, hb⟩
        have HV6 := hid (owns_ints ho)
        replace c0 := (hb.cell (p := ⟨b, 0, none⟩) (lt_of_cell c0)).trans c0
        replace HEP5 := hid (HEP5.out.below hb)
        replace HRE := hid (HRE.out.below hb)
        replace HM5 := hid (HM5.out.below hb)
        replace HOS5 := hid (HOS5.out.below hb)
        replace HB5 := hid (below_step HB5.out HB5.out.size hb)
        clear ho hb
        go_wp2_with fail
        refine (same_yes v6 _ ms _ HV6.out ⟨a1, c1, rfl, HM5.out, z1, l1, m1⟩ (by omega)).mono ?_
        rintro e w7 ⟨rfl, hb⟩
        replace c0 := (hb.cell (p := ⟨b, 0, none⟩) (lt_of_cell c0)).trans c0
        replace HEP5 := hid (HEP5.out.below hb)
        replace HRE := hid (HRE.out.below hb)
        replace HM5 := hid (HM5.out.below hb)
        replace HOS5 := hid (HOS5.out.below hb)
        replace HB5 := hid (below_step HB5.out HB5.out.size hb)
        clear hb HV6
        go_wp2_with fail
        refine (mem_others ae ce ms ask _ HRE.out hze g2).mono ?_
        rintro e w8 ⟨v8, rfl, hv, hb⟩
        have HV8 := hid hv
        clear hv
        replace c0 := (hb.cell (p := ⟨b, 0, none⟩) (lt_of_cell c0)).trans c0
        replace HEP5 := hid (HEP5.out.below hb)
        replace HRE := hid (HRE.out.below hb)
        replace HM5 := hid (HM5.out.below hb)
        replace HOS5 := hid (HOS5.out.below hb)
        replace HB5 := hid (below_step HB5.out HB5.out.size hb)
        clear hb
        go_wp2_with fail
        refine (refr_others a1 c1 ms ask _ HM5.out (by omega)).mono ?_
        rintro e w9 ⟨v9, rfl, hv, hb⟩
        have HV9 := hid hv
        clear hv
        replace c0 := (hb.cell (p := ⟨b, 0, none⟩) (lt_of_cell c0)).trans c0
        replace HEP5 := hid (HEP5.out.below hb)
        replace HRE := hid (HRE.out.below hb)
        replace HM5 := hid (HM5.out.below hb)
        replace HOS5 := hid (HOS5.out.below hb)
        replace HV8 := hid (HV8.out.below hb)
        replace HB5 := hid (below_step HB5.out HB5.out.size hb)
        clear hb
        have hfl : (ms.filter fun x => !(x == ask)).length ≤ ms.length := List.length_filter_le _ _
        go_wp2_with fail
        refine (same_yes v8 v9 _ _ HV8.out HV9.out (by omega)).mono ?_
        rintro e w10 ⟨rfl, hb⟩
        replace c0 := (hb.cell (p := ⟨b, 0, none⟩) (lt_of_cell c0)).trans c0
        replace HEP5 := hid (HEP5.out.below hb)
        replace HRE := hid (HRE.out.below hb)
        replace HM5 := hid (HM5.out.below hb)
        replace HOS5 := hid (HOS5.out.below hb)
        replace HB5 := hid (below_step HB5.out HB5.out.size hb)
        clear hb
        clear HV8 HV9 hfl
        go_upto_if 170 with fail
        go_cut [18] from 171 to 173 (fun s wx => s = .int .i64 (judgeI number ask) ∧ wx = w10)
        case first =>
          by_cases j1 : ask < number
          · have HJ := hid (show judgeI number ask = 1 from if_pos j1)
            go_wp2
            go_meet
            case rel => exact ⟨by rw [HJ.out], rfl⟩
          · by_cases j2 : number < ask
            · have HJ := hid (show judgeI number ask = 2 from by unfold judgeI; rw [if_neg j1, if_pos j2])
              go_wp2
              go_meet
              case rel => exact ⟨by rw [HJ.out], rfl⟩
            · have HJ := hid (show judgeI number ask = 0 from by unfold judgeI; rw [if_neg j1, if_neg j2])
              go_wp2
              go_meet
              case rel => exact ⟨by rw [HJ.out], rfl⟩
        case rest =>
        obtain ⟨rfl, rfl⟩ := hcut
        have hjj : (judgeI number ask == judgeI number ask) = true := beq_self_eq_true _
        go_wp2_with fail
        refine (copy_ints a2 c2 os _ HOS5.out hm2).mono ?_
        rintro e w11 ⟨v11, rfl, ho, hb⟩
        obtain ⟨a11, c11, rfl, hr11, h011, -⟩ := owns_ints ho
        have HR11 := hid hr11
        replace c0 := (hb.cell (p := ⟨b, 0, none⟩) (lt_of_cell c0)).trans c0
        replace HEP5 := hid (HEP5.out.below hb)
        replace HRE := hid (HRE.out.below hb)
        replace HM5 := hid (HM5.out.below hb)
        replace HOS5 := hid (HOS5.out.below hb)
        replace HB5 := hid (below_step HB5.out HB5.out.size hb)
        clear hb hr11 ho
        go_wp2_with fail
        refine (ep_next b ms number a11 c11 os _ HEP5.out g1 HR11.out h011 hm2).mono ?_
        rintro e w12 ⟨hb, hcase⟩
        replace c0 := (hb.cell (p := ⟨b, 0, none⟩) (lt_of_cell c0)).trans c0
        replace HEP5 := hid (HEP5.out.below hb)
        replace HRE := hid (HRE.out.below hb)
        replace HM5 := hid (HM5.out.below hb)
        replace HOS5 := hid (HOS5.out.below hb)
        replace HB5 := hid (below_step HB5.out HB5.out.size hb)
        clear hb HR11 h011
        rcases hcase with ⟨e1, rfl⟩ | ⟨e1, e2, rfl⟩ | ⟨e1, e2, bn, rfl, e3, e4⟩
        · have hnb : (number == 4611686018427387903) = true := by rw [e1]; exact beq_self_eq_true _
          clear e1 hnm
          go_wp2_with fail
          refine (ep_judge b ms number ask _ HEP5.out).mono ?_
          rintro e w13 ⟨rfl, rfl⟩
          go_wp2_with fail
          refine (awake19 _).mono ?_
          rintro e w14 ⟨rfl, hb⟩
          replace HB5 := hid (below_step HB5.out HB5.out.size hb)
          clear hb
          go_wp2_with fail
          go_ret
          exact ⟨rfl, HB5.out⟩
        · have hnb : (number == 4611686018427387903) = false := beq_eq_false_iff_ne.2 e1
          clear e1 hnm
          go_wp2_with fail
          refine (refr_right a2 c2 os _ HOS5.out (by omega)).mono ?_
          rintro e w13 ⟨bb, rfl, hbb, hb⟩
          obtain rfl : bb = false := by cases bb with | false => rfl | true => exact absurd (hbb.1 rfl) e2
          replace c0 := (hb.cell (p := ⟨b, 0, none⟩) (lt_of_cell c0)).trans c0
          replace HEP5 := hid (HEP5.out.below hb)
          replace HB5 := hid (below_step HB5.out HB5.out.size hb)
          clear hb hbb
          go_wp2_with fail
          refine (ep_judge b ms number ask _ HEP5.out).mono ?_
          rintro e w14 ⟨rfl, rfl⟩
          go_wp2_with fail
          refine (awake19 _).mono ?_
          rintro e w15 ⟨rfl, hb⟩
          replace HB5 := hid (below_step HB5.out HB5.out.size hb)
          clear hb
          go_wp2_with fail
          go_ret
          exact ⟨rfl, HB5.out⟩
        · have hnb : (number == 4611686018427387903) = false := beq_eq_false_iff_ne.2 e1
          have h7o : os.length ≤ 7 := e2.2.2
          have HN := hid e3
          have hn1 : (number + 1 == number + 1) = true := beq_self_eq_true _
          clear e1 e3
          go_wp2_with fail
          refine (refr_right a2 c2 os _ HOS5.out (by omega)).mono ?_
          rintro e w13 ⟨bb, rfl, hbb, hb⟩
          obtain rfl : bb = true := hbb.2 e2
          replace HN := hid (HN.out.below hb)
          replace c0 := (hb.cell (p := ⟨b, 0, none⟩) (lt_of_cell c0)).trans c0
          replace HEP5 := hid (HEP5.out.below hb)
          replace HRE := hid (HRE.out.below hb)
          replace HM5 := hid (HM5.out.below hb)
          replace HOS5 := hid (HOS5.out.below hb)
          replace HB5 := hid (below_step HB5.out HB5.out.size hb)
          clear hb hbb
          obtain ⟨vn, hon, hvn⟩ := HN.out
          obtain ⟨an, cn, rfl, hrn, hzn, -⟩ := hvn
          have n0 := ObjAt.cell hon 0 (.slice an os.length cn) rfl
          have HRN := hid hrn
          clear hon hrn
          go_wp2_with fail
          refine (ep_number bn os (number + 1) _ HN.out).mono ?_
          rintro e w14 ⟨rfl, rfl⟩
          go_wp2_with fail
          refine (mem_members an cn os _ HRN.out hzn (by omega)).mono ?_
          rintro e w15 ⟨v15, rfl, ho, hb⟩
          have HV := hid (owns_ints ho)
          clear ho
          replace HEP5 := hid (HEP5.out.below hb)
          replace HN := hid (HN.out.below hb)
          replace HM5 := hid (HM5.out.below hb)
          replace HOS5 := hid (HOS5.out.below hb)
          replace HB5 := hid (below_step HB5.out HB5.out.size hb)
          clear hb
          go_wp2_with fail
          refine (same_yes v15 _ os _ HV.out ⟨a2, c2, rfl, HOS5.out, z2, l2, m2⟩ (by omega)).mono ?_
          rintro e w16 ⟨rfl, hb⟩
          replace HEP5 := hid (HEP5.out.below hb)
          replace HN := hid (HN.out.below hb)
          replace HM5 := hid (HM5.out.below hb)
          replace HOS5 := hid (HOS5.out.below hb)
          replace HB5 := hid (below_step HB5.out HB5.out.size hb)
          clear hb
          go_wp2_with fail
          refine (ep_stays b bn ms os number (number + 1) _ HEP5.out HN.out g2 (by omega)).mono ?_
          rintro e w17 ⟨v17, rfl, hv, hb⟩
          have HV17 := hid hv
          clear hv
          replace HEP5 := hid (HEP5.out.below hb)
          replace HN := hid (HN.out.below hb)
          replace HM5 := hid (HM5.out.below hb)
          replace HOS5 := hid (HOS5.out.below hb)
          replace HB5 := hid (below_step HB5.out HB5.out.size hb)
          clear hb
          go_wp2_with fail
          refine (refr_stays a1 a2 c1 c2 ms os _ HM5.out HOS5.out (by omega) (by omega)).mono ?_
          rintro e w18 ⟨v18, rfl, hv, hb⟩
          have HV18 := hid hv
          clear hv
          replace HEP5 := hid (HEP5.out.below hb)
          replace HN := hid (HN.out.below hb)
          replace HM5 := hid (HM5.out.below hb)
          replace HOS5 := hid (HOS5.out.below hb)
          replace HV17 := hid (HV17.out.below hb)
          replace HB5 := hid (below_step HB5.out HB5.out.size hb)
          clear hb
          have hfl : (ms.filter fun x => !(!placeB os x)).length ≤ ms.length := List.length_filter_le _ _
          go_wp2_with fail
          refine (same_yes v17 v18 _ _ HV17.out HV18.out (by omega)).mono ?_
          rintro e w19 ⟨rfl, hb⟩
          replace HEP5 := hid (HEP5.out.below hb)
          replace HB5 := hid (below_step HB5.out HB5.out.size hb)
          clear hb
          clear HV17 HV18 hfl
          go_wp2_with fail
          refine (ep_judge b ms number ask _ HEP5.out).mono ?_
          rintro e w20 ⟨rfl, rfl⟩
          go_wp2_with fail
          refine (awake19 _).mono ?_
          rintro e w21 ⟨rfl, hb⟩
          replace HB5 := hid (below_step HB5.out HB5.out.size hb)
          clear hb
          go_wp2_with fail
          go_ret
          exact ⟨rfl, HB5.out⟩
def T : Ty := .pair (.pair (.int .i64) (.pair (.slice (.int .i64)) (.pair (.slice (.int .i64)) (.pair (.int .i64) .unit)))) .unit
theorem walk' (W : World) (vs : List Value) (el : T.El) (hr : ArgsRd W T vs el) (hf : Fit T el) : Calls Try.prog 3 vs.toArray W fun e w' => e = .returned (.bool true) ∧ Below W.heap.size W w' := by
  obtain ⟨v, r, cs, rfl, hv, hx, rfl⟩ := hr
  obtain ⟨c1, c2, rfl, h1, ⟨rfl, -⟩, c3, c4, rfl, h3, h4, c5, c6, rfl, h5, h6, c7, c8, rfl, -, ⟨rfl, -⟩, rfl⟩ := hx
  obtain ⟨v3, rfl⟩ := List.length_eq_one_iff.mp h3
  obtain ⟨v5, rfl⟩ := List.length_eq_one_iff.mp h5
  obtain ⟨a1, k1, rfl, z1, l1, m1, r1⟩ := ints_of_rd h4
  obtain ⟨a2, k2, rfl, z2, l2, m2, r2⟩ := ints_of_rd h6
  have hv' : v = .agg _ := hv
  rw [hv']
  have f1 : List.length el.fst.snd.fst * 8 ≤ 140737488351232 := hf.1.2.1.1
  have f2 : List.length el.fst.snd.snd.fst * 8 ≤ 140737488351232 := hf.1.2.2.1.1
  exact walk _ _ _ _ _ _ _ _ W r1 r2 z1 z2 l1 m1 l2 m2 (by omega) (by omega)

theorem own : ownKnob Try.prog.godebug = none := by kernel_rfl
theorem laidOut : laidOutB Try.prog = true := by kernel_rfl

set_option maxRecDepth 100000 in
theorem lifted (os : Os) (started : os.Started) (H : Type) (enc : TypeId × Value → H) :
    ReturnsInHanded {} Try.checked os 3 .any (Rows.reconfNewsSpec.pre6 enc Try.prog Try.f3 Rows.reconfNewsRow.domain false) (Rows.reconfNewsSpec.post enc Try.prog Try.f3 false true false false) := by
  refine returnsInHanded_of_change_sized (C := Try.checked) own started (by kernel_rfl) Try.func3
    (ChangeSpec.witness6 (enc := enc) (C := Try.checked) false ⟨#[], #[.agg #[.int .i64 0, .slice none 0 0, .slice none 0 0, .int .i64 0]], []⟩ 16 (by kernel_rfl) (by kernel_rfl) (by kernel_rfl) (by kernel_rfl)) ?_
  intro W base args ds gs before hval hW _ hsz _
  exact law_said T (by kernel_rfl) laidOut (by kernel_rfl) rfl rfl Try.underlying4 (fun ds h => by
    match ds, h with
    | [d0], _ => rfl) walk' W base args ds gs before hval hW hsz

theorem over : Rows.reconfNewsRow.holds Try.pinned (OpenSpec.ofChange Rows.reconfNewsSpec) :=
  OpenClaim.holds_of_wide 3 Try.f3 rfl rfl rfl rfl rfl rfl rfl ⟨rfl, rfl, rfl, rfl, rfl⟩ rfl rfl rfl rfl rfl (by kernel_rfl) Try.func3 (by kernel_rfl)
    (of_decide_eq_true (by kernel_rfl)) (by unfold Func.isWrapper; first | (rw [if_pos (by decide +kernel)]; kernel_rfl) | (rw [if_neg (by decide +kernel)]; exact ⟨rfl, rfl⟩))
    (fun os started H enc _ => lifted os started H enc)

theorem proved : Rows.ReconfNewsSaid := over
#print axioms proved
end Go.Proofs.Ytmhlckicjojmoaa.reconfNews
