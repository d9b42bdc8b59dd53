/-
  ReconfQuorums: whom a leader asks is as the document says: for every argument.
-/
import Derived.Test.YtmhlckicjojmoaaRecQ9
import Derived.Test.YtmhlckicjojmoaaAwake19
import Derived.Test.YtmhlckicjojmoaaArgs
import Derived.Deep.DeepCutAuto
import Derived.Deep.CutBlock
namespace Go.Proofs.Ytmhlckicjojmoaa.reconfQuorums
open Go.RowKit
set_option maxRecDepth 20000
set_option linter.unusedVariables false

set_option maxHeartbeats 4000000 in
theorem walk (me size : Int) (a1 a2 : Option Addr) (c1 c2 : Nat) (ms lat : List Int) (w : World) (h1 : RowAt w a1 (ms.map (Value.int .i64))) (h2 : RowAt w a2 (lat.map (Value.int .i64))) (z1 : a1 = none → c1 = 0) (z2 : a2 = none → c2 = 0)
    (l1 : ms.length ≤ c1) (m1 : c1 ≤ maxLen) (l2 : lat.length ≤ c2) (m2 : c2 ≤ maxLen) (hm1 : ms.length * 8 ≤ 140737488355328) (hm2 : lat.length * 8 ≤ 140737488355328) :
    Calls Try.prog 4 #[.agg #[.slice a1 ms.length c1, .int .i64 me, .int .i64 size, .slice a2 lat.length c2]] w fun e w' => e = .returned (.bool true) ∧ Below w.heap.size w w' := by
  have HM := hid h1
  have HL := hid h2
  clear h1 h2
  go_enter Try.func4, Try.ntmps4
  go_wp2_with fail
  have HK := hid (ObjAt.new w 50 #[.slice a1 ms.length c1, .int .i64 me, .int .i64 size, .slice a2 lat.length c2])
  have HB := hid (below_new (w := w) (.cells #[.slice a1 ms.length c1, .int .i64 me, .int .i64 size, .slice a2 lat.length c2] 50))
  replace HM := hid (HM.out.below HB.out)
  replace HL := hid (HL.out.below HB.out)
  generalize w.alloc (.cells #[.slice a1 ms.length c1, .int .i64 me, .int .i64 size, .slice a2 lat.length c2] 50) = W at HK HB HM HL ⊢
  have k0 := ObjAt.cell HK.out 0 (.slice a1 ms.length c1) rfl
  have k1 := ObjAt.cell HK.out 1 (.int .i64 me) rfl
  have k2 := ObjAt.cell HK.out 2 (.int .i64 size) rfl
  have k3 := ObjAt.cell HK.out 3 (.slice a2 lat.length c2) rfl
  go_quiet (fail)
  clear k0 k1 k2 k3 HK
  have HB0 : Hid (Below w.heap.size w (W.drewN nq)) := HB.out.trans (below_drewN' nq)
  have HM0 : Hid (RowAt (W.drewN nq) a1 (ms.map (Value.int .i64))) := HM.out
  have HL0 : Hid (RowAt (W.drewN nq) a2 (lat.map (Value.int .i64))) := HL.out
  clear HB HM HL
  generalize W.drewN nq = W0 at *
  go_wp2_with fail
  refine (copy_ints a1 c1 ms _ HM0.out hm1).mono ?_
  rintro e w1 ⟨v, rfl, ho, hb⟩
  obtain ⟨ai, ci, rfl, hri, hzi, -⟩ := owns_ints ho
  have HRI := hid hri
  replace HM0 := hid (HM0.out.below hb)
  replace HL0 := hid (HL0.out.below hb)
  replace HB0 := hid (below_step HB0.out HB0.out.size hb)
  clear ho hb hri
  go_wp2_with fail
  refine (rec_new ai ci ms 1 _ HRI.out hzi hm1).mono ?_
  rintro e w2 ⟨hb, hcase⟩
  replace HM0 := hid (HM0.out.below hb)
  replace HL0 := hid (HL0.out.below hb)
  replace HB0 := hid (below_step HB0.out HB0.out.size hb)
  clear hb HRI
  rcases hcase with ⟨g1, rfl⟩ | ⟨g1, g2, rfl⟩ | ⟨g1, g2, b, rfl, g3, g4, -⟩
  · exact absurd (by unfold NumIn; omega) g1
  · clear g1
    go_wp2_with fail
    refine (refr_right a1 c1 ms _ HM0.out (by omega)).mono ?_
    rintro e w4 ⟨bb, rfl, hbb, hb⟩
    obtain rfl : bb = false := by cases bb with | false => rfl | true => exact absurd (hbb.1 rfl) g2
    replace HB0 := hid (below_step HB0.out HB0.out.size hb)
    clear hb hbb
    go_wp2_with fail
    refine (awake19 _).mono ?_
    rintro e w5 ⟨rfl, hb⟩
    replace HB0 := hid (below_step HB0.out HB0.out.size hb)
    clear hb
    go_wp2_with fail
    go_ret
    exact ⟨rfl, HB0.out⟩
  · have h7 : ms.length ≤ 7 := g2.2.2
    have HE := hid g3
    clear g1 g3
    go_wp2_with fail
    refine (copy_ints a2 c2 lat _ HL0.out hm2).mono ?_
    rintro e w3 ⟨v3, rfl, ho, hb⟩
    have HV := hid (owns_ints ho)
    obtain ⟨a3, c3, rfl, hr3, hz3, -⟩ := owns_ints ho
    have HR3 := hid hr3
    replace HE := hid (HE.out.below hb)
    replace HM0 := hid (HM0.out.below hb)
    replace HL0 := hid (HL0.out.below hb)
    replace HB0 := hid (below_step HB0.out HB0.out.size hb)
    clear ho hb hr3
    go_wp2_with fail
    refine (ep_quorum b ms lat 1 me size a3 c3 _ HE.out g2 HR3.out (by omega)).mono ?_
    rintro e w4 ⟨hb, hcase⟩
    replace HV := hid (HV.out.below hb)
    replace HM0 := hid (HM0.out.below hb)
    replace HL0 := hid (HL0.out.below hb)
    replace HB0 := hid (below_step HB0.out HB0.out.size hb)
    clear hb HE HR3
    rcases hcase with ⟨q1, rfl⟩ | ⟨q1, v4, q, rfl, q2, q3⟩
    · go_wp2_with fail
      refine (refr_quorum_no a1 a2 c1 c2 ms lat me size _ HM0.out HL0.out h7 (by omega) q1).mono ?_
      rintro e w5 ⟨rfl, rfl⟩
      go_wp2_with fail
      refine (same_yes (.slice none 0 0) (.slice none 0 0) [] _ (IsInts.nil _) (IsInts.nil _) (Nat.zero_le _)).mono ?_
      rintro e w6 ⟨rfl, hb⟩
      replace HV := hid (HV.out.below hb)
      replace HL0 := hid (HL0.out.below hb)
      replace HB0 := hid (below_step HB0.out HB0.out.size hb)
      clear hb
      go_wp2_with fail
      refine (same_yes _ _ lat _ HV.out ⟨a2, c2, rfl, HL0.out, z2, l2, m2⟩ (by omega)).mono ?_
      rintro e w6 ⟨rfl, hb⟩
      replace HB0 := hid (below_step HB0.out HB0.out.size hb)
      clear hb HV
      go_wp2_with fail
      refine (awake19 _).mono ?_
      rintro e w5 ⟨rfl, hb⟩
      replace HB0 := hid (below_step HB0.out HB0.out.size hb)
      clear hb
      go_wp2_with fail
      go_ret
      exact ⟨rfl, HB0.out⟩
    · have HV4 := hid q3
      have hql := quo_len g2 q1 q2
      have hq1 := q1.2.1
      have hq2 := q1.2.2.1
      clear q3
      go_wp2_with fail
      refine (refr_quorum a1 a2 c1 c2 ms lat q me size _ HM0.out HL0.out g2 (by omega) q1 q2).mono ?_
      rintro e w5 ⟨v5, rfl, hv, hb⟩
      have HV5 := hid hv
      replace HV := hid (HV.out.below hb)
      replace HV4 := hid (HV4.out.below hb)
      replace HL0 := hid (HL0.out.below hb)
      replace HB0 := hid (below_step HB0.out HB0.out.size hb)
      clear hb hv q1 q2
      generalize quoL ms me q (size - 1).toNat = Q at *
      have hQ0 : 0 < Q.length := by omega
      have hQ7 : Q.length ≤ 7 := by omega
      clear hql
      obtain ⟨a5, c5, rfl, hr5, hz5, -⟩ := HV5.out
      clear hr5 hz5
      go_wp2_with fail
      refine (same_yes _ _ Q _ HV4.out HV5.out (by omega)).mono ?_
      rintro e w6 ⟨rfl, hb⟩
      replace HV := hid (HV.out.below hb)
      replace HL0 := hid (HL0.out.below hb)
      replace HB0 := hid (below_step HB0.out HB0.out.size hb)
      clear hb HV4 HV5
      go_wp2_with fail
      refine (same_yes _ _ lat _ HV.out ⟨a2, c2, rfl, HL0.out, z2, l2, m2⟩ (by omega)).mono ?_
      rintro e w6 ⟨rfl, hb⟩
      replace HB0 := hid (below_step HB0.out HB0.out.size hb)
      clear hb HV
      go_wp2_with fail
      refine (awake19 _).mono ?_
      rintro e w5 ⟨rfl, hb⟩
      replace HB0 := hid (below_step HB0.out HB0.out.size hb)
      clear hb
      go_wp2_with fail
      go_ret
      exact ⟨rfl, HB0.out⟩
def T : Ty := .pair (.pair (.slice (.int .i64)) (.pair (.int .i64) (.pair (.int .i64) (.pair (.slice (.int .i64)) .unit)))) .unit
theorem walk' (W : World) (vs : List Value) (el : T.El) (hr : ArgsRd W T vs el) (hf : Fit T el) : Calls Try.prog 4 vs.toArray W fun e w' => e = .returned (.bool true) ∧ Below W.heap.size W w' := by
  obtain ⟨v, r, cs, rfl, hv, hx, rfl⟩ := hr
  obtain ⟨c1, c2, rfl, h1, h2, c3, c4, rfl, h3, ⟨rfl, -⟩, c5, c6, rfl, h5, ⟨rfl, -⟩, c7, c8, rfl, h7, h8, rfl⟩ := hx
  obtain ⟨v1, rfl⟩ := List.length_eq_one_iff.mp h1
  obtain ⟨v7, rfl⟩ := List.length_eq_one_iff.mp h7
  obtain ⟨a1, k1, rfl, z1, l1, m1, r1⟩ := ints_of_rd h2
  obtain ⟨a2, k2, rfl, z2, l2, m2, r2⟩ := ints_of_rd h8
  have hv' : v = .agg _ := hv
  rw [hv']
  have f1 : List.length el.fst.fst * 8 ≤ 140737488351232 := hf.1.1.1
  have f2 : List.length el.fst.snd.snd.snd.fst * 8 ≤ 140737488351232 := hf.1.2.2.2.1.1
  exact walk _ _ _ _ _ _ _ _ W r1 r2 z1 z2 l1 m1 l2 m2 (by omega) (by omega)

theorem own : ownKnob Try.prog.godebug = none := by kernel_rfl
theorem laidOut : laidOutB Try.prog = true := by kernel_rfl

set_option maxRecDepth 100000 in
theorem lifted (os : Os) (started : os.Started) (H : Type) (enc : TypeId × Value → H) :
    ReturnsInHanded {} Try.checked os 4 .any (Rows.reconfQuorumsSpec.pre6 enc Try.prog Try.f4 Rows.reconfQuorumsRow.domain false) (Rows.reconfQuorumsSpec.post enc Try.prog Try.f4 false true false false) := by
  refine returnsInHanded_of_change_sized (C := Try.checked) own started (by kernel_rfl) Try.func4
    (ChangeSpec.witness6 (enc := enc) (C := Try.checked) false ⟨#[], #[.agg #[.slice none 0 0, .int .i64 0, .int .i64 0, .slice none 0 0]], []⟩ 16 (by kernel_rfl) (by kernel_rfl) (by kernel_rfl) (by kernel_rfl)) ?_
  intro W base args ds gs before hval hW _ hsz _
  exact law_said T (by kernel_rfl) laidOut (by kernel_rfl) rfl rfl Try.underlying4 (fun ds h => by
    match ds, h with
    | [d0], _ => rfl) walk' W base args ds gs before hval hW hsz

theorem over : Rows.reconfQuorumsRow.holds Try.pinned (OpenSpec.ofChange Rows.reconfQuorumsSpec) :=
  OpenClaim.holds_of_wide 4 Try.f4 rfl rfl rfl rfl rfl rfl rfl ⟨rfl, rfl, rfl, rfl, rfl⟩ rfl rfl rfl rfl rfl (by kernel_rfl) Try.func4 (by kernel_rfl)
    (of_decide_eq_true (by kernel_rfl)) (by unfold Func.isWrapper; first | (rw [if_pos (by decide +kernel)]; kernel_rfl) | (rw [if_neg (by decide +kernel)]; exact ⟨rfl, rfl⟩))
    (fun os started H enc _ => lifted os started H enc)

theorem proved : Rows.ReconfQuorumsSaid := over
#print axioms proved
end Go.Proofs.Ytmhlckicjojmoaa.reconfQuorums
