/-
  ReconfNear: no member that is left out of a quorum is nearer than one that was taken: for every argument.
-/
import Derived.Test.YtmhlckicjojmoaaRecQ9
import Derived.Test.YtmhlckicjojmoaaAwake19
import Derived.Test.YtmhlckicjojmoaaArgs
import Derived.Deep.DeepCutAuto
import Derived.Deep.CutBlock
namespace Go.Proofs.Ytmhlckicjojmoaa.reconfNear
open Go.RowKit
set_option maxRecDepth 20000
set_option linter.unusedVariables false

/-- Who is taken is no farther than who is not. -/
theorem quo_near {ms lat q : List Int} {me size : Int} (hr : RightM ms) (hok : QuoOk ms lat me size) (hq : QuoIs ms lat me q) :
    ∀ r ∈ ms, ∀ s ∈ quoL ms me q (size - 1).toNat, r ∉ quoL ms me q (size - 1).toNat → s ≠ me → ¬ farI lat r < farI lat s := by
  generalize (size - 1).toNat = k
  intro r hrm s hs hrn hsm hlt
  have hmem : ∀ x, x ∈ q ↔ x ∈ ms ∧ x ≠ me := fun x => by rw [hq.1.mem_iff]; unfold othL; simp
  unfold quoL at hs hrn
  rw [List.mem_filter] at hs hrn
  have hs2 := hs.2
  rw [Bool.or_eq_true] at hs2
  have hsk : s ∈ q.take k := by
    rcases hs2 with h | h
    · exact absurd (by simpa using h) hsm
    · simpa using h
  have hr2 : r ≠ me ∧ r ∉ q.take k := by
    constructor
    · intro e; exact hrn ⟨hrm, by rw [e]; simp⟩
    · intro h; exact hrn ⟨hrm, by rw [Bool.or_eq_true]; exact .inr (by simpa using h)⟩
  have hrq : r ∈ q := (hmem r).2 ⟨hrm, hr2.1⟩
  obtain ⟨i, hi, rfl⟩ := List.getElem_of_mem hsk
  obtain ⟨j, hj, rfl⟩ := List.getElem_of_mem hrq
  simp only [List.length_take] at hi
  have hij : i < j := by
    refine Nat.lt_of_not_le fun h => hr2.2 ?_
    exact List.mem_take_iff_getElem.2 ⟨j, by omega, rfl⟩
  have := List.pairwise_iff_getElem.1 hq.2 i j (by omega) hj hij
  rw [List.getElem_take] at hlt
  unfold NearR at this
  omega
theorem far_cases {w : World} {a : Option Addr} {lat : List Int} (hr : RowAt w a (lat.map (Value.int .i64))) (k : Nat) :
    ∃ u : Int, farI lat k = u ∧ ((k < lat.length ∧ ∃ b o, a = some ⟨b, o, none⟩ ∧ w.cell? ⟨b, o + k, none⟩ = some (.int .i64 u)) ∨ (lat.length ≤ k ∧ u = 0)) := by
  by_cases hk : k < lat.length
  · obtain ⟨b, o, rfl, hc⟩ := hr.at k (by simpa using hk)
    simp only [List.getElem_map] at hc
    exact ⟨lat[k], by unfold farI; rw [if_pos (by omega)]; simp [hk], .inl ⟨hk, b, o, rfl, hc⟩⟩
  · exact ⟨0, by unfold farI; rw [if_neg (by omega)], .inr ⟨by omega, rfl⟩⟩
set_option maxHeartbeats 4000000 in
theorem walk (me size : Int) (a1 a2 : Option Addr) (c1 c2 : Nat) (ms lat : List Int) (w : World) (h1 : RowAt w a1 (ms.map (Value.int .i64))) (h2 : RowAt w a2 (lat.map (Value.int .i64))) (z1 : a1 = none → c1 = 0) (z2 : a2 = none → c2 = 0)
    (l1 : ms.length ≤ c1) (m1 : c1 ≤ maxLen) (l2 : lat.length ≤ c2) (m2 : c2 ≤ maxLen) (hm1 : ms.length * 8 ≤ 140737488355328) (hm2 : lat.length * 8 ≤ 140737488355328) :
    Calls Try.prog 5 #[.agg #[.slice a1 ms.length c1, .int .i64 me, .int .i64 size, .slice a2 lat.length c2]] w fun e w' => e = .returned (.bool true) ∧ Below w.heap.size w w' := by
  have HM := hid h1
  have HL := hid h2
  clear h1 h2
  go_enter Try.func5, Try.ntmps5
  go_wp2_with fail
  have HK := hid (ObjAt.new w 50 #[.slice a1 ms.length c1, .int .i64 me, .int .i64 size, .slice a2 lat.length c2])
  have HB := hid (below_new (w := w) (.cells #[.slice a1 ms.length c1, .int .i64 me, .int .i64 size, .slice a2 lat.length c2] 50))
  replace HM := hid (HM.out.below HB.out)
  replace HL := hid (HL.out.below HB.out)
  generalize w.alloc (.cells #[.slice a1 ms.length c1, .int .i64 me, .int .i64 size, .slice a2 lat.length c2] 50) = W at HK HB HM HL ⊢
  have k0 := ObjAt.cell HK.out 0 (.slice a1 ms.length c1) rfl
  have k1 := ObjAt.cell HK.out 1 (.int .i64 me) rfl
  have k2 := ObjAt.cell HK.out 2 (.int .i64 size) rfl
  have k3 := ObjAt.cell HK.out 3 (.slice a2 lat.length c2) rfl
  go_quiet (fail)
  clear k0 k1 k2 k3 HK
  have HB0 : Hid (Below w.heap.size w (W.drewN nq)) := HB.out.trans (below_drewN' nq)
  have HM0 : Hid (RowAt (W.drewN nq) a1 (ms.map (Value.int .i64))) := HM.out
  have HL0 : Hid (RowAt (W.drewN nq) a2 (lat.map (Value.int .i64))) := HL.out
  clear HB HM HL
  generalize W.drewN nq = W0 at *
  go_wp2_with fail
  refine (copy_ints a1 c1 ms _ HM0.out hm1).mono ?_
  rintro e w1 ⟨v, rfl, ho, hb⟩
  obtain ⟨ai, ci, rfl, hri, hzi, -⟩ := owns_ints ho
  have HRI := hid hri
  replace HM0 := hid (HM0.out.below hb)
  replace HL0 := hid (HL0.out.below hb)
  replace HB0 := hid (below_step HB0.out HB0.out.size hb)
  clear ho hb hri
  go_wp2_with fail
  refine (rec_new ai ci ms 1 _ HRI.out hzi hm1).mono ?_
  rintro e w2 ⟨hb, hcase⟩
  replace HM0 := hid (HM0.out.below hb)
  replace HL0 := hid (HL0.out.below hb)
  replace HB0 := hid (below_step HB0.out HB0.out.size hb)
  clear hb HRI
  rcases hcase with ⟨g1, rfl⟩ | ⟨g1, g2, rfl⟩ | ⟨g1, g2, b, rfl, g3, g4, -⟩
  · exact absurd (by unfold NumIn; omega) g1
  · clear g1
    go_wp2_with fail
    refine (refr_right a1 c1 ms _ HM0.out (by omega)).mono ?_
    rintro e w4 ⟨bb, rfl, hbb, hb⟩
    obtain rfl : bb = false := by cases bb with | false => rfl | true => exact absurd (hbb.1 rfl) g2
    replace HB0 := hid (below_step HB0.out HB0.out.size hb)
    clear hb hbb
    go_wp2_with fail
    refine (awake19 _).mono ?_
    rintro e w5 ⟨rfl, hb⟩
    replace HB0 := hid (below_step HB0.out HB0.out.size hb)
    clear hb
    go_wp2_with fail
    go_ret
    exact ⟨rfl, HB0.out⟩
  · have h7 : ms.length ≤ 7 := g2.2.2
    have HE := hid g3
    clear g1 g3
    go_wp2_with fail
    refine (ep_quorum b ms lat 1 me size a2 c2 _ HE.out g2 HL0.out (by omega)).mono ?_
    rintro e w4 ⟨hb, hcase⟩
    replace HM0 := hid (HM0.out.below hb)
    replace HL0 := hid (HL0.out.below hb)
    replace HB0 := hid (below_step HB0.out HB0.out.size hb)
    clear hb HE
    rcases hcase with ⟨q1, rfl⟩ | ⟨q1, v4, q, rfl, q2, q3⟩
    · go_wp2_with fail
      refine (awake19 _).mono ?_
      rintro e w5 ⟨rfl, hb⟩
      replace HB0 := hid (below_step HB0.out HB0.out.size hb)
      clear hb
      go_wp2_with fail
      go_ret
      exact ⟨rfl, HB0.out⟩
    · have HV4 := hid q3
      have hql := quo_len g2 q1 q2
      have hq1 := q1.2.1
      have hq2 := q1.2.2.1
      have HNR := hid (quo_near g2 q1 q2)
      have HPOS : Hid (∀ x ∈ ms, 0 ≤ x) := fun x hx => by
        obtain ⟨j, hj, rfl⟩ := List.getElem_of_mem hx
        exact (g2.1 j hj hj).1
      have HSUB : Hid (∀ x ∈ quoL ms me q (size - 1).toNat, x ∈ ms) := fun x hx => (List.mem_filter.1 hx).1
      clear q3 q1 q2
      generalize quoL ms me q (size - 1).toNat = Q at *
      have hQ7 : Q.length ≤ 7 := by omega
      obtain ⟨a5, c5, rfl, hr5, hz5, -⟩ := HV4.out
      have HR5 := hid hr5
      clear hr5 hz5 HV4
      go_wp2_with fail
      go_loopw [61] (fun s wr => ∃ i : Nat, s = .int .i64 i ∧ i ≤ ms.length ∧ wr = w4) (fun s _ => ms.length - (intOf s).toNat)
      case atStart => exact ⟨0, rfl, Nat.zero_le _, rfl⟩
      case round =>
        obtain ⟨i, rfl, hi, rfl⟩ := hrel
        by_cases hil : i < ms.length
        · obtain ⟨ab, ao, rfl, hci⟩ := HM0.out.at i (by simpa using hil)
          simp only [List.getElem_map] at hci
          have hx0 := HPOS.out ms[i] (List.getElem_mem hil)
          have HXN := hid (HNR.out ms[i] (List.getElem_mem hil))
          generalize ms[i] = x at *
          obtain ⟨wo, rfl⟩ : ∃ wo : World, wo = wr := ⟨_, rfl⟩
          go_wp2_with fail
          go_loopw [67] (fun s wr => ∃ j : Nat, s = .int .i64 j ∧ j ≤ Q.length ∧ wr = wo) (fun s _ => Q.length - (intOf s).toNat)
          case atStart => exact ⟨0, rfl, Nat.zero_le _, rfl⟩
          case round =>
            obtain ⟨j, rfl, hj, rfl⟩ := hrel
            by_cases hjl : j < Q.length
            · obtain ⟨qb, qo, rfl, hcj⟩ := HR5.out.at j (by simpa using hjl)
              simp only [List.getElem_map] at hcj
              have hy0 := HPOS.out Q[j] (HSUB.out _ (List.getElem_mem hjl))
              have HYN := hid (HXN.out Q[j] (List.getElem_mem hjl))
              clear HXN
              generalize Q[j] = y at *
              have HRQ := HR5
              obtain ⟨kx, rfl⟩ : ∃ n : Nat, x = n := ⟨x.toNat, by omega⟩
              obtain ⟨ky, rfl⟩ : ∃ n : Nat, y = n := ⟨y.toNat, by omega⟩
              have HFX := hid (far_cases HL0.out kx)
              have HFY := hid (far_cases HL0.out ky)
              rcases placeI_cases Q kx with ⟨p1, p2⟩ | ⟨p, hp, p1, -⟩
              · have HYN2 := hid (HYN.out p2)
                have HP1 := hid p1
                clear HYN p1 p2
                have HD : Hid (∀ (A B : Int), farI lat kx = A → farI lat ky = B → (ky : Int) ≠ me → ¬ A < B) := fun A B h1 h2 h3 => by have h := HYN2.out h3; omega
                clear HYN2
                by_cases hme : (ky : Int) = me
                · have hm1 : ((ky : Int) == me) = true := beq_iff_eq.2 hme
                  have hm2 : ((ky : Int) != me) = false := by unfold bne; rw [hm1]; rfl
                  clear hme HD
                  obtain ⟨A, fa, ha⟩ := HFX.out
                  obtain ⟨B, fb, hb⟩ := HFY.out
                  clear HFX HFY fa fb
                  rcases ha with ⟨hxl, lb, lo, rfl, hcx⟩ | ⟨hxl, rfl⟩ <;> rcases hb with ⟨hyl, lb2, lo2, e2, hcy⟩ | ⟨hyl, rfl⟩ <;> (try cases e2) <;> (try cases hb)
                  all_goals
                    go_wp2_with fail
                    refine (refr_place _ _ Q kx wr HR5.out (by omega)).mono ?_
                    rintro e wx ⟨rfl, rfl⟩
                    rw [HP1.out]
                    go_wp2_with fail
                    go_roundw
                    case rel => exact ⟨j + 1, by go_num, by omega, trivial⟩
                    case measure => simp [intOf]; omega
                · have hm1 : ((ky : Int) == me) = false := beq_eq_false_iff_ne.2 hme
                  have hm2 : ((ky : Int) != me) = true := by unfold bne; rw [hm1]; rfl
                  obtain ⟨A, fa, ha⟩ := HFX.out
                  obtain ⟨B, fb, hb⟩ := HFY.out
                  have hAB := HD.out A B fa fb hme
                  clear HFX HFY fa fb HD hme
                  rcases ha with ⟨hxl, lb, lo, rfl, hcx⟩ | ⟨hxl, rfl⟩ <;> rcases hb with ⟨hyl, lb2, lo2, e2, hcy⟩ | ⟨hyl, rfl⟩ <;> (try cases e2)
                  all_goals
                    go_wp2_with fail
                    refine (refr_place _ _ Q kx wr HR5.out (by omega)).mono ?_
                    rintro e wx ⟨rfl, rfl⟩
                    rw [HP1.out]
                    go_wp2_with fail
                    go_roundw
                    case rel => exact ⟨j + 1, by go_num, by omega, trivial⟩
                    case measure => simp [intOf]; omega
              · have HP1 := hid p1
                clear HYN p1
                obtain ⟨A, fa, ha⟩ := HFX.out
                obtain ⟨B, fb, hb⟩ := HFY.out
                clear HFX HFY fa fb
                rcases ha with ⟨hxl, lb, lo, rfl, hcx⟩ | ⟨hxl, rfl⟩ <;> rcases hb with ⟨hyl, lb2, lo2, e2, hcy⟩ | ⟨hyl, rfl⟩ <;> (try cases e2)
                all_goals
                  go_wp2_with fail
                  refine (refr_place _ _ Q kx wr HR5.out (by omega)).mono ?_
                  rintro e wx ⟨rfl, rfl⟩
                  rw [HP1.out]
                  go_wp2_with fail
                  go_roundw
                  case rel => exact ⟨j + 1, by go_num, by omega, trivial⟩
                  case measure => simp [intOf]; omega
            · obtain rfl : j = Q.length := by omega
              go_wp2_with fail
              go_roundw
              case rel => exact ⟨i + 1, by go_num, by omega, trivial⟩
              case measure => simp [intOf]; omega
        · obtain rfl : i = ms.length := by omega
          have hqs : ((Q.length : Int) == size) = true := beq_iff_eq.2 hql
          clear hql
          go_wp2_with fail
          refine (awake19 _).mono ?_
          rintro e w5 ⟨rfl, hb⟩
          replace HB0 := hid (below_step HB0.out HB0.out.size hb)
          clear hb
          go_wp2_with fail
          go_ret
          exact ⟨rfl, HB0.out⟩
def T : Ty := .pair (.pair (.slice (.int .i64)) (.pair (.int .i64) (.pair (.int .i64) (.pair (.slice (.int .i64)) .unit)))) .unit
theorem walk' (W : World) (vs : List Value) (el : T.El) (hr : ArgsRd W T vs el) (hf : Fit T el) : Calls Try.prog 5 vs.toArray W fun e w' => e = .returned (.bool true) ∧ Below W.heap.size W w' := by
  obtain ⟨v, r, cs, rfl, hv, hx, rfl⟩ := hr
  obtain ⟨c1, c2, rfl, h1, h2, c3, c4, rfl, h3, ⟨rfl, -⟩, c5, c6, rfl, h5, ⟨rfl, -⟩, c7, c8, rfl, h7, h8, rfl⟩ := hx
  obtain ⟨v1, rfl⟩ := List.length_eq_one_iff.mp h1
  obtain ⟨v7, rfl⟩ := List.length_eq_one_iff.mp h7
  obtain ⟨a1, k1, rfl, z1, l1, m1, r1⟩ := ints_of_rd h2
  obtain ⟨a2, k2, rfl, z2, l2, m2, r2⟩ := ints_of_rd h8
  have hv' : v = .agg _ := hv
  rw [hv']
  have f1 : List.length el.fst.fst * 8 ≤ 140737488351232 := hf.1.1.1
  have f2 : List.length el.fst.snd.snd.snd.fst * 8 ≤ 140737488351232 := hf.1.2.2.2.1.1
  exact walk _ _ _ _ _ _ _ _ W r1 r2 z1 z2 l1 m1 l2 m2 (by omega) (by omega)

theorem own : ownKnob Try.prog.godebug = none := by kernel_rfl
theorem laidOut : laidOutB Try.prog = true := by kernel_rfl

set_option maxRecDepth 100000 in
theorem lifted (os : Os) (started : os.Started) (H : Type) (enc : TypeId × Value → H) :
    ReturnsInHanded {} Try.checked os 5 .any (Rows.reconfNearSpec.pre6 enc Try.prog Try.f5 Rows.reconfNearRow.domain false) (Rows.reconfNearSpec.post enc Try.prog Try.f5 false true false false) := by
  refine returnsInHanded_of_change_sized (C := Try.checked) own started (by kernel_rfl) Try.func5
    (ChangeSpec.witness6 (enc := enc) (C := Try.checked) false ⟨#[], #[.agg #[.slice none 0 0, .int .i64 0, .int .i64 0, .slice none 0 0]], []⟩ 16 (by kernel_rfl) (by kernel_rfl) (by kernel_rfl) (by kernel_rfl)) ?_
  intro W base args ds gs before hval hW _ hsz _
  exact law_said T (by kernel_rfl) laidOut (by kernel_rfl) rfl rfl Try.underlying4 (fun ds h => by
    match ds, h with
    | [d0], _ => rfl) walk' W base args ds gs before hval hW hsz

theorem over : Rows.reconfNearRow.holds Try.pinned (OpenSpec.ofChange Rows.reconfNearSpec) :=
  OpenClaim.holds_of_wide 5 Try.f5 rfl rfl rfl rfl rfl rfl rfl ⟨rfl, rfl, rfl, rfl, rfl⟩ rfl rfl rfl rfl rfl (by kernel_rfl) Try.func5 (by kernel_rfl)
    (of_decide_eq_true (by kernel_rfl)) (by unfold Func.isWrapper; first | (rw [if_pos (by decide +kernel)]; kernel_rfl) | (rw [if_neg (by decide +kernel)]; exact ⟨rfl, rfl⟩))
    (fun os started H enc _ => lifted os started H enc)

theorem proved : Rows.ReconfNearSaid := over
#print axioms proved
end Go.Proofs.Ytmhlckicjojmoaa.reconfNear
