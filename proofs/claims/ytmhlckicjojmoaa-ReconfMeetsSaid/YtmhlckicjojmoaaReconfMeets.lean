/-
  ReconfMeets: any two quorums of the size of a majority, whoever leads and whatever the latencies are, have a member in common, and each has its leader in it: for every argument.
-/
import Derived.Test.YtmhlckicjojmoaaRecQ9
import Derived.Test.YtmhlckicjojmoaaAwake19
import Derived.Test.YtmhlckicjojmoaaArgs
import Derived.Deep.DeepCutAuto
import Derived.Deep.CutBlock
namespace Go.Proofs.Ytmhlckicjojmoaa.reconfMeets
open Go.RowKit
set_option maxRecDepth 20000
set_option linter.unusedVariables false

theorem majority (n : Nat) (h1 : 1 ≤ n) (h7 : n ≤ 7) (w : World) : Calls Try.prog 26 #[.int .i64 n] w fun e w' => e = .returned (.int .i64 ((n / 2 + 1 : Nat) : Int)) ∧ w = w' := by
  go_enter Try.func26, Try.ntmps26
  go_wp2_with fail
  go_ret
  exact ⟨by simp, rfl⟩
theorem quo_meet {ms : List Int} {f g : Int → Bool} : (ms.filter f).length + (ms.filter g).length ≤ ((ms.filter f).filter g).length + ms.length := by
  induction ms with
  | nil => simp
  | cons x l ih =>
    cases hf : f x <;> cases hg : g x <;> simp only [List.filter_cons, hf, hg, List.length_cons, if_true, if_false, Bool.false_eq_true] <;> omega
set_option maxHeartbeats 4000000 in
theorem walk (ma mb : Int) (a1 a2 a3 : Option Addr) (c1 c2 c3 : Nat) (ms lx ly : List Int) (w : World) (h1 : RowAt w a1 (ms.map (Value.int .i64))) (h2 : RowAt w a2 (lx.map (Value.int .i64))) (h3 : RowAt w a3 (ly.map (Value.int .i64)))
    (hm1 : ms.length * 8 ≤ 140737488355328) (hm2 : lx.length * 8 ≤ 140737488355328) (hm3 : ly.length * 8 ≤ 140737488355328) :
    Calls Try.prog 6 #[.agg #[.slice a1 ms.length c1, .int .i64 ma, .int .i64 mb, .slice a2 lx.length c2, .slice a3 ly.length c3]] w fun e w' => e = .returned (.bool true) ∧ Below w.heap.size w w' := by
  have HM := hid h1
  have HL := hid h2
  have HY := hid h3
  clear h1 h2 h3
  go_enter Try.func6, Try.ntmps6
  go_wp2_with fail
  have HK := hid (ObjAt.new w 56 #[.slice a1 ms.length c1, .int .i64 ma, .int .i64 mb, .slice a2 lx.length c2, .slice a3 ly.length c3])
  have HB := hid (below_new (w := w) (.cells #[.slice a1 ms.length c1, .int .i64 ma, .int .i64 mb, .slice a2 lx.length c2, .slice a3 ly.length c3] 56))
  replace HM := hid (HM.out.below HB.out)
  replace HL := hid (HL.out.below HB.out)
  replace HY := hid (HY.out.below HB.out)
  generalize w.alloc (.cells #[.slice a1 ms.length c1, .int .i64 ma, .int .i64 mb, .slice a2 lx.length c2, .slice a3 ly.length c3] 56) = W at HK HB HM HL HY ⊢
  have k0 := ObjAt.cell HK.out 0 (.slice a1 ms.length c1) rfl
  have k1 := ObjAt.cell HK.out 1 (.int .i64 ma) rfl
  have k2 := ObjAt.cell HK.out 2 (.int .i64 mb) rfl
  have k3 := ObjAt.cell HK.out 3 (.slice a2 lx.length c2) rfl
  have k4 := ObjAt.cell HK.out 4 (.slice a3 ly.length c3) rfl
  go_quiet (fail)
  clear k0 k1 k2 k3 k4 HK
  have HB0 : Hid (Below w.heap.size w (W.drewN nq)) := HB.out.trans (below_drewN' nq)
  have HM0 : Hid (RowAt (W.drewN nq) a1 (ms.map (Value.int .i64))) := HM.out
  have HL0 : Hid (RowAt (W.drewN nq) a2 (lx.map (Value.int .i64))) := HL.out
  have HY0 : Hid (RowAt (W.drewN nq) a3 (ly.map (Value.int .i64))) := HY.out
  clear HB HM HL HY
  generalize W.drewN nq = W0 at *
  go_wp2_with fail
  refine (copy_ints a1 c1 ms _ HM0.out hm1).mono ?_
  rintro e w1 ⟨v, rfl, ho, hb⟩
  obtain ⟨ai, ci, rfl, hri, hzi, -⟩ := owns_ints ho
  have HRI := hid hri
  replace HM0 := hid (HM0.out.below hb)
  replace HL0 := hid (HL0.out.below hb)
  replace HY0 := hid (HY0.out.below hb)
  replace HB0 := hid (below_step HB0.out HB0.out.size hb)
  clear ho hb hri
  go_wp2_with fail
  refine (rec_new ai ci ms 1 _ HRI.out hzi hm1).mono ?_
  rintro e w2 ⟨hb, hcase⟩
  replace HM0 := hid (HM0.out.below hb)
  replace HL0 := hid (HL0.out.below hb)
  replace HY0 := hid (HY0.out.below hb)
  replace HB0 := hid (below_step HB0.out HB0.out.size hb)
  clear hb HRI
  rcases hcase with ⟨g1, rfl⟩ | ⟨g1, g2, rfl⟩ | ⟨g1, g2, b, rfl, g3, g4, -⟩
  · exact absurd (by unfold NumIn; omega) g1
  · clear g1
    go_wp2_with fail
    refine (refr_right a1 c1 ms _ HM0.out (by omega)).mono ?_
    rintro e w4 ⟨bb, rfl, hbb, hb⟩
    obtain rfl : bb = false := by cases bb with | false => rfl | true => exact absurd (hbb.1 rfl) g2
    replace HB0 := hid (below_step HB0.out HB0.out.size hb)
    clear hb hbb
    go_wp2_with fail
    refine (awake19 _).mono ?_
    rintro e w5 ⟨rfl, hb⟩
    replace HB0 := hid (below_step HB0.out HB0.out.size hb)
    clear hb
    go_wp2_with fail
    go_ret
    exact ⟨rfl, HB0.out⟩
  · have h7 : ms.length ≤ 7 := g2.2.2
    have h1m : 1 ≤ ms.length := g2.2.1
    have HE := hid g3
    clear g1 g3
    go_wp2_with fail
    refine (majority ms.length h1m h7 _).mono ?_
    rintro e wm ⟨rfl, rfl⟩
    have hN1 : 1 ≤ ms.length / 2 + 1 := Nat.succ_pos _
    have hN2 : ms.length < 2 * (ms.length / 2 + 1) := by omega
    generalize ms.length / 2 + 1 = N at *
    go_wp2_with fail
    refine (ep_quorum b ms lx 1 ma N a2 c2 _ HE.out g2 HL0.out (by omega)).mono ?_
    rintro e w4 ⟨hb, hcase⟩
    clear HL0
    replace HE := hid (HE.out.below hb)
    replace HM0 := hid (HM0.out.below hb)
    replace HY0 := hid (HY0.out.below hb)
    replace HB0 := hid (below_step HB0.out HB0.out.size hb)
    clear hb
    rcases hcase with ⟨q1, rfl⟩ | ⟨q1, v4, q, rfl, q2, q3⟩
    · clear q1
      go_wp2_with fail
      refine (ep_quorum b ms ly 1 mb N a3 c3 _ HE.out g2 HY0.out (by omega)).mono ?_
      rintro e w5 ⟨hb, hcase2⟩
      have hb4 := hb
      clear HY0 HE
      replace HM0 := hid (HM0.out.below hb)
      replace HB0 := hid (below_step HB0.out HB0.out.size hb)
      clear hb
      clear hb4
      have HC2 : Hid (∃ v bb, e = .returned (.tuple #[v, .bool bb])) := by
        rcases hcase2 with ⟨-, rfl⟩ | ⟨-, v, q, rfl, -⟩
        · exact ⟨_, _, rfl⟩
        · exact ⟨_, _, rfl⟩
      obtain ⟨v5, b5, rfl⟩ := HC2.out
      clear hcase2 HC2
      go_wp2_with fail
      refine (awake19 _).mono ?_
      rintro e wz ⟨rfl, hb⟩
      replace HB0 := hid (below_step HB0.out HB0.out.size hb)
      clear hb
      go_wp2_with fail
      go_ret
      exact ⟨rfl, HB0.out⟩
    · have HV4 := hid q3
      clear q3
      go_wp2_with fail
      refine (ep_quorum b ms ly 1 mb N a3 c3 _ HE.out g2 HY0.out (by omega)).mono ?_
      rintro e w5 ⟨hb, hcase2⟩
      have hb4 := hb
      clear HY0 HE
      replace HM0 := hid (HM0.out.below hb)
      replace HB0 := hid (below_step HB0.out HB0.out.size hb)
      clear hb
      have HP := hid (HV4.out.below hb4)
      clear hb4 HV4
      rcases hcase2 with ⟨p1, rfl⟩ | ⟨p1, v5, qq, rfl, p2, p3⟩
      · clear HP
        go_wp2_with fail
        refine (awake19 _).mono ?_
        rintro e wz ⟨rfl, hb⟩
        replace HB0 := hid (below_step HB0.out HB0.out.size hb)
        clear hb
        go_wp2_with fail
        go_ret
        exact ⟨rfl, HB0.out⟩
      · have HQ := hid p3
        have hPl := quo_len g2 q1 q2
        have hQl := quo_len g2 p1 p2
        have HMT := hid (quo_meet (ms := ms) (f := takB ma q ((N : Int) - 1).toNat) (g := takB mb qq ((N : Int) - 1).toNat))
        have HAP : Hid (ma ∈ quoL ms ma q ((N : Int) - 1).toNat) := List.mem_filter.2 ⟨(placeI_mem ms ma).1 (of_decide_eq_true q1.1), by simp⟩
        have HBQ : Hid (mb ∈ quoL ms mb qq ((N : Int) - 1).toNat) := List.mem_filter.2 ⟨(placeI_mem ms mb).1 (of_decide_eq_true p1.1), by simp⟩
        have HSUB : Hid (∀ x ∈ quoL ms ma q ((N : Int) - 1).toNat, x ∈ ms) := fun x hx => (List.mem_filter.1 hx).1
        have HMT2 : Hid (0 < ((quoL ms ma q ((N : Int) - 1).toNat).filter fun x => decide (x ∈ quoL ms mb qq ((N : Int) - 1).toNat)).length) := by
          show 0 < _
          have e : (quoL ms ma q ((N : Int) - 1).toNat).filter (fun x => decide (x ∈ quoL ms mb qq ((N : Int) - 1).toNat)) = (ms.filter (takB ma q ((N : Int) - 1).toNat)).filter (takB mb qq ((N : Int) - 1).toNat) := by
            refine List.filter_congr fun x hx => ?_
            have hxm := HSUB.out x hx
            rw [Bool.eq_iff_iff, decide_eq_true_iff]
            unfold quoL
            rw [List.mem_filter]
            exact ⟨fun h => h.2, fun h => ⟨hxm, h⟩⟩
          rw [e]
          have h1 := HMT.out
          have h2 : (ms.filter (takB ma q ((N : Int) - 1).toNat)).length = N := by have : ((ms.filter (takB ma q ((N : Int) - 1).toNat)).length : Int) = N := hPl; omega
          have h3 : (ms.filter (takB mb qq ((N : Int) - 1).toNat)).length = N := by have : ((ms.filter (takB mb qq ((N : Int) - 1).toNat)).length : Int) = N := hQl; omega
          omega
        have hNm : N ≤ ms.length := by have := q1.2.2.1; omega
        clear q1 q2 p1 p2 p3 HMT
        generalize quoL ms ma q ((N : Int) - 1).toNat = P at *
        generalize quoL ms mb qq ((N : Int) - 1).toNat = Q at *
        obtain ⟨ap, cp, rfl, hrp, hzp, -⟩ := HP.out
        obtain ⟨aq, cq, rfl, hrq, hzq, -⟩ := HQ.out
        have HRP := hid hrp
        have HRQ := hid hrq
        clear HP HQ hrp hrq hzp hzq
        have hP7 : P.length ≤ 7 := by omega
        have hQ7 : Q.length ≤ 7 := by omega
        have HPL := hid hPl
        clear hPl hQl
        go_wp2_with fail
        go_loopw [15, 74] (fun s15 s wr => ∃ j : Nat, s = .int .i64 j ∧ j ≤ P.length ∧ s15 = .int .i64 ((P.take j).filter fun x => decide (x ∈ Q)).length ∧ wr = w5) (fun _ s _ => P.length - (intOf s).toNat)
        case atStart => exact ⟨0, rfl, Nat.zero_le _, rfl, rfl⟩
        case round =>
          obtain ⟨j, rfl, hj, rfl, rfl⟩ := hrel
          by_cases hjl : j < P.length
          · obtain ⟨pb, po, rfl, hcj⟩ := HRP.out.at j (by simpa using hjl)
            simp only [List.getElem_map] at hcj
            have H1 := hid (filt_keep (p := fun x => decide (x ∈ Q)) hjl)
            have H2 := hid (filt_drop (p := fun x => decide (x ∈ Q)) hjl)
            have hfl := filt_len (p := fun x => decide (x ∈ Q)) (l := P) (k := j)
            have HXM := hid (HSUB.out P[j] (List.getElem_mem hjl))
            generalize P[j] = x at *
            generalize hD : (P.take j).filter (fun x => decide (x ∈ Q)) = D at *
            clear hD
            have HM' : Hid (∃ m : Nat, placeI ms x = m) := by
              rcases placeI_cases ms x with ⟨h1, h2⟩ | ⟨m, hm, h1, h2⟩
              · exact absurd HXM.out h2
              · exact ⟨m, h1⟩
            obtain ⟨m, hm⟩ := HM'.out
            have HMP := hid hm
            clear hm HM'
            rcases placeI_cases Q x with ⟨p1, p2⟩ | ⟨p, hp, p1, p2⟩
            · have HX := hid (H2.out (decide_eq_false p2))
              have HP1 := hid p1
              clear H1 H2 p1 p2
              go_wp2_with fail
              refine (refr_place _ _ Q x wr HRQ.out (by omega)).mono ?_
              rintro e wx ⟨rfl, rfl⟩
              rw [HP1.out]
              go_wp2_with fail
              refine (refr_place _ _ ms x wr HM0.out (by omega)).mono ?_
              rintro e wx ⟨rfl, rfl⟩
              rw [HMP.out]
              go_wp2_with fail
              go_roundw
              case rel => exact ⟨j + 1, by go_num, by omega, by rw [HX.out], trivial⟩
              case measure => simp [intOf]; omega
            · have HX := hid (H1.out (decide_eq_true (by rw [← p2]; exact List.getElem_mem hp)))
              have HP1 := hid p1
              clear H1 H2 p1 p2
              go_wp2_with fail
              refine (refr_place _ _ Q x wr HRQ.out (by omega)).mono ?_
              rintro e wx ⟨rfl, rfl⟩
              rw [HP1.out]
              go_wp2_with fail
              refine (refr_place _ _ ms x wr HM0.out (by omega)).mono ?_
              rintro e wx ⟨rfl, rfl⟩
              rw [HMP.out]
              go_wp2_with fail
              go_roundw
              case rel => exact ⟨j + 1, by go_num, by omega, by rw [HX.out, List.length_append]; go_num, trivial⟩
              case measure => simp [intOf]; omega
          · obtain rfl : j = P.length := by omega
            rw [List.take_length]
            have hpos := HMT2.out
            generalize (P.filter fun x => decide (x ∈ Q)).length = cm at *
            have hpn : ((P.length : Int) == N) = true := beq_iff_eq.2 HPL.out
            obtain ⟨ka, hka⟩ : ∃ m : Nat, placeI P ma = m := by
              rcases placeI_cases P ma with ⟨h1, h2⟩ | ⟨m, hm, h1, h2⟩
              · exact absurd HAP.out h2
              · exact ⟨m, h1⟩
            obtain ⟨kb, hkb⟩ : ∃ m : Nat, placeI Q mb = m := by
              rcases placeI_cases Q mb with ⟨h1, h2⟩ | ⟨m, hm, h1, h2⟩
              · exact absurd HBQ.out h2
              · exact ⟨m, h1⟩
            have HKA := hid hka
            have HKB := hid hkb
            have hcmI : (0 : Int) < cm := by omega
            clear hka hkb
            go_wp2_with fail
            refine (refr_place _ _ P ma wr HRP.out (by omega)).mono ?_
            rintro e wx ⟨rfl, rfl⟩
            rw [HKA.out]
            go_wp2_with fail
            refine (refr_place _ _ Q mb wr HRQ.out (by omega)).mono ?_
            rintro e wx ⟨rfl, rfl⟩
            rw [HKB.out]
            go_wp2_with fail
            refine (awake19 _).mono ?_
            rintro e wz ⟨rfl, hb⟩
            replace HB0 := hid (below_step HB0.out HB0.out.size hb)
            clear hb
            go_wp2_with fail
            go_ret
            exact ⟨rfl, HB0.out⟩
def T : Ty := .pair (.pair (.slice (.int .i64)) (.pair (.int .i64) (.pair (.int .i64) (.pair (.slice (.int .i64)) (.pair (.slice (.int .i64)) .unit))))) .unit
theorem walk' (W : World) (vs : List Value) (el : T.El) (hr : ArgsRd W T vs el) (hf : Fit T el) : Calls Try.prog 6 vs.toArray W fun e w' => e = .returned (.bool true) ∧ Below W.heap.size W w' := by
  obtain ⟨v, r, cs, rfl, hv, hx, rfl⟩ := hr
  obtain ⟨c1, c2, rfl, h1, h2, c3, c4, rfl, h3, ⟨rfl, -⟩, c5, c6, rfl, h5, ⟨rfl, -⟩, c7, c8, rfl, h7, h8, c9, c10, rfl, h9, h10, rfl⟩ := hx
  obtain ⟨v1, rfl⟩ := List.length_eq_one_iff.mp h1
  obtain ⟨v7, rfl⟩ := List.length_eq_one_iff.mp h7
  obtain ⟨v9, rfl⟩ := List.length_eq_one_iff.mp h9
  obtain ⟨a1, k1, rfl, z1, l1, m1, r1⟩ := ints_of_rd h2
  obtain ⟨a2, k2, rfl, z2, l2, m2, r2⟩ := ints_of_rd h8
  obtain ⟨a3, k3, rfl, z3, l3, m3, r3⟩ := ints_of_rd h10
  have hv' : v = .agg _ := hv
  rw [hv']
  have f1 : List.length el.fst.fst * 8 ≤ 140737488351232 := hf.1.1.1
  have f2 : List.length el.fst.snd.snd.snd.fst * 8 ≤ 140737488351232 := hf.1.2.2.2.1.1
  have f3 : List.length el.fst.snd.snd.snd.snd.fst * 8 ≤ 140737488351232 := hf.1.2.2.2.2.1.1
  exact walk _ _ _ _ _ _ _ _ _ _ _ W r1 r2 r3 (by omega) (by omega) (by omega)

theorem own : ownKnob Try.prog.godebug = none := by kernel_rfl
theorem laidOut : laidOutB Try.prog = true := by kernel_rfl

set_option maxRecDepth 100000 in
theorem lifted (os : Os) (started : os.Started) (H : Type) (enc : TypeId × Value → H) :
    ReturnsInHanded {} Try.checked os 6 .any (Rows.reconfMeetsSpec.pre6 enc Try.prog Try.f6 Rows.reconfMeetsRow.domain false) (Rows.reconfMeetsSpec.post enc Try.prog Try.f6 false true false false) := by
  refine returnsInHanded_of_change_sized (C := Try.checked) own started (by kernel_rfl) Try.func6
    (ChangeSpec.witness6 (enc := enc) (C := Try.checked) false ⟨#[], #[.agg #[.slice none 0 0, .int .i64 0, .int .i64 0, .slice none 0 0, .slice none 0 0]], []⟩ 16 (by kernel_rfl) (by kernel_rfl) (by kernel_rfl) (by kernel_rfl)) ?_
  intro W base args ds gs before hval hW _ hsz _
  exact law_said T (by kernel_rfl) laidOut (by kernel_rfl) rfl rfl Try.underlying4 (fun ds h => by
    match ds, h with
    | [d0], _ => rfl) walk' W base args ds gs before hval hW hsz

theorem over : Rows.reconfMeetsRow.holds Try.pinned (OpenSpec.ofChange Rows.reconfMeetsSpec) :=
  OpenClaim.holds_of_wide 6 Try.f6 rfl rfl rfl rfl rfl rfl rfl ⟨rfl, rfl, rfl, rfl, rfl⟩ rfl rfl rfl rfl rfl (by kernel_rfl) Try.func6 (by kernel_rfl)
    (of_decide_eq_true (by kernel_rfl)) (by unfold Func.isWrapper; first | (rw [if_pos (by decide +kernel)]; kernel_rfl) | (rw [if_neg (by decide +kernel)]; exact ⟨rfl, rfl⟩))
    (fun os started H enc _ => lifted os started H enc)

theorem proved : Rows.ReconfMeetsSaid := over
#print axioms proved
end Go.Proofs.Ytmhlckicjojmoaa.reconfMeets
