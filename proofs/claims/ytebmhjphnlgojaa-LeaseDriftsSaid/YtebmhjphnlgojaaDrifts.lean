/-
  LeaseDrifts.
-/
import Derived.Test.YtebmhjphnlgojaaAwake18
import Derived.Test.YtebmhjphnlgojaaArgs
import Derived.Deep.DeepCutAuto
import Derived.Deep.CutBlock
namespace Go.Proofs.Ytebmhjphnlgojaa.leaseDrifts
open Go.RowKit
set_option maxRecDepth 20000
set_option linter.unusedVariables false

theorem drew_obj {w : World} {b : Nat} {t : TypeId} {cs : Array Value} (h : ObjAt w b t cs) : ObjAt w.drew b t cs := h

theorem walk (p q n x y : Int) (w : World) : Calls Try.prog 5 #[.agg #[.int .i64 p, .int .i64 q, .int .i64 n, .int .i64 x, .int .i64 y]] w fun e w' => e = .returned (.bool true) ∧ Below w.heap.size w w' := by
  go_enter Try.func5, Try.ntmps5
  go_wp2_with fail
  go_region
  go_wp2_with fail
  have hz : (w.alloc (.cells #[.int .i64 p, .int .i64 q, .int .i64 n, .int .i64 x, .int .i64 y] 25)).heap.size = w.heap.size + 1 := by unfold World.alloc; simp
  have HO := hid (drew_obj (ObjAt.new (w.alloc (.cells #[.int .i64 p, .int .i64 q, .int .i64 n, .int .i64 x, .int .i64 y] 25)) 23 #[.int .i64 p, .int .i64 q]))
  rw [hz] at HO
  have HB := hid ((((Below.refl w.heap.size w).alloc (Nat.le_refl _) (.cells #[.int .i64 p, .int .i64 q, .int .i64 n, .int .i64 x, .int .i64 y] 25)).alloc (by omega) (.cells #[.int .i64 p, .int .i64 q] 23)).drew)
  clear hz
  generalize ((w.alloc (.cells #[.int .i64 p, .int .i64 q, .int .i64 n, .int .i64 x, .int .i64 y] 25)).alloc (.cells #[.int .i64 p, .int .i64 q] 23)).drew = W1 at HO HB ⊢
  generalize w.heap.size + 1 = d at *
  refine (ref_right p q _).mono ?_
  rintro e w2 ⟨rfl, rfl⟩
  have c0 := ObjAt.cell HO.out 0 (.int .i64 p) rfl
  have c1 := ObjAt.cell HO.out 1 (.int .i64 q) rfl
  go_wp2_with fail
  refine (drift_hold p q n _).mono ?_
  rintro e w2 ⟨rfl, hb⟩
  have HO2 := hid (ObjAt.below HO.out hb)
  have HB2 := hid (below_step HB.out HB.out.size hb)
  clear c0 c1 hb HO HB
  have c0 := ObjAt.cell HO2.out 0 (.int .i64 p) rfl
  have c1 := ObjAt.cell HO2.out 1 (.int .i64 q) rfl
  go_upto_block 0 with fail
  go_cut [7, 10] from 12 to 40 (fun r s wx => r = .bool (decide (RightD p q)) ∧ s = .int .i64 (holdE p q n) ∧ wx = w2)
  case first =>
    by_cases hr : RightD p q
    · rw [decide_eq_true hr]
      have HR := hid (decide_eq_true hr)
      by_cases h1 : n < 1
      · have HN := hid (hold_bad hr (n := n) (fun h => by have := h.1; omega))
        clear hr
        go_wp2
        go_meet
        case rel => exact ⟨by rw [HR.out], by rw [HN.out.2], rfl⟩
      · by_cases h2 : 1048576 < n
        · have HN := hid (hold_bad hr (n := n) (fun h => by have := h.2; omega))
          clear hr
          go_wp2
          go_meet
          case rel => exact ⟨by rw [HR.out], by rw [HN.out.2], rfl⟩
        · have HN := hid (hold_ok hr (n := n) ⟨by omega, by omega⟩)
          clear hr
          go_wp2
          go_meet
          case rel => exact ⟨by rw [HR.out], by rw [HN.out.2], rfl⟩
    · rw [decide_eq_false hr]
      have HR := hid (decide_eq_false hr)
      have HN := hid (hold_no (n := n) hr)
      clear hr
      go_wp2
      go_meet
      case rel => exact ⟨by rw [HR.out], by rw [HN.out.2], rfl⟩
  case rest =>
    obtain ⟨rfl, rfl, rfl⟩ := hcut
    go_upto_region 9 with fail
    go_cut [7, 8, 9, 10, 72] from 41 to 72 (fun s7 s8 s9 s10 s wx => s7 = .bool (decide (RightD p q)) ∧ s = .bool false ∧ Below wc.heap.size wc wx)
    case first =>
      go_wp2_with fail
      refine (drift_check p q _).mono ?_
      rintro e w3 ⟨rfl, hb⟩
      have HO3 := hid (ObjAt.below HO2.out hb)
      have HB3 := hid hb
      clear c0 c1 hb HO2 HB2
      have c0 := ObjAt.cell HO3.out 0 (.int .i64 p) rfl
      have c1 := ObjAt.cell HO3.out 1 (.int .i64 q) rfl
      by_cases hr : RightD p q
      · have HR := hid (decide_eq_true hr)
        have hk : chk p q = 0 := if_pos hr
        rw [decide_eq_true hr, hk]
        clear hk
        by_cases hl : RightL n
        · rw [(hold_ok hr hl).1, (hold_ok hr hl).2]
          have HH := hid (ref_hold p q n w3 hr hl)
          clear hr hl
          generalize (n * q).tdiv p = k at HH ⊢
          go_wp2_with fail
          refine HH.out.mono ?_
          rintro e w4 ⟨rfl, rfl⟩
          go_wp2
          go_meet
          case rel => exact ⟨by rw [HR.out], rfl, HB3.out⟩
        · rw [(hold_bad hr hl).1, (hold_bad hr hl).2]
          clear hr hl
          go_wp2
          go_meet
          case rel => exact ⟨by rw [HR.out], rfl, HB3.out⟩
      · have HR := hid (decide_eq_false hr)
        have hk : chk p q = 180 := if_neg hr
        rw [decide_eq_false hr, hk, (hold_no (n := n) hr).1, (hold_no (n := n) hr).2]
        clear hk hr
        go_wp2
        go_meet
        case rel => exact ⟨by rw [HR.out], rfl, HB3.out⟩
    case rest =>
      obtain ⟨rfl, rfl, hb⟩ := hcut
      have HO3 := hid (ObjAt.below HO2.out hb)
      have HB3 := hid (below_step HB2.out HB2.out.size hb)
      clear c0 c1 hb HO2 HB2
      have c0 := ObjAt.cell HO3.out 0 (.int .i64 p) rfl
      have c1 := ObjAt.cell HO3.out 1 (.int .i64 q) rfl
      go_upto_region 11 with fail
      go_cut [7, 11] from 73 to 103 (fun s7 s wx => s = .bool (decide (WithinD p q x y)) ∧ wx = wc)
      case first =>
        by_cases hr : RightD p q
        · rw [decide_eq_true hr]
          go_wp2_with fail
          refine (ref_time x _).mono ?_
          rintro e w2 ⟨rfl, rfl⟩
          by_cases hx : RightT x
          · rw [decide_eq_true hx]
            go_wp2_with fail
            refine (ref_time y _).mono ?_
            rintro e w2 ⟨rfl, rfl⟩
            by_cases hy : RightT y
            · rw [decide_eq_true hy]
              have e1 := (step_bound hr hx).1
              have e2 := (step_bound hr hx).2
              have e3 := (step_bound hr hy).1
              have e4 := (step_bound hr hy).2
              have HD := hid (show (decide (WithinD p q x y)) = (decide (x * q ≤ y * p) && decide (y * q ≤ x * p)) from by unfold WithinD; simp [hr, hx, hy])
              clear hr hx hy
              by_cases g : x * q ≤ y * p
              · have HG := hid (decide_eq_true g)
                go_wp2
                go_meet
                case rel => exact ⟨by rw [HD.out, HG.out]; rfl, rfl⟩
              · have HG := hid (decide_eq_false g)
                go_wp2
                go_meet
                case rel => exact ⟨by rw [HD.out, HG.out]; rfl, rfl⟩
            · rw [decide_eq_false hy]
              have HD := hid (show (decide (WithinD p q x y)) = false from by unfold WithinD; simp [hy])
              clear hr hx hy
              go_wp2
              go_meet
              case rel => exact ⟨by rw [HD.out], rfl⟩
          · rw [decide_eq_false hx]
            have HD := hid (show (decide (WithinD p q x y)) = false from by unfold WithinD; simp [hx])
            clear hr hx
            go_wp2
            go_meet
            case rel => exact ⟨by rw [HD.out], rfl⟩
        · rw [decide_eq_false hr]
          have HD := hid (show (decide (WithinD p q x y)) = false from by unfold WithinD; simp [hr])
          clear hr
          go_wp2
          go_meet
          case rel => exact ⟨by rw [HD.out], rfl⟩
      case rest =>
        obtain ⟨rfl, rfl⟩ := hcut
        have hsym : decide (WithinD p q y x) = decide (WithinD p q x y) := decide_eq_decide.mpr ⟨fun h => ⟨h.1, h.2.2.1, h.2.1, h.2.2.2.2, h.2.2.2.1⟩, fun h => ⟨h.1, h.2.2.1, h.2.1, h.2.2.2.2, h.2.2.2.1⟩⟩
        have HS := hid hsym
        have H1 := hid (fun w => drift_within p q x y w)
        have H2 := hid (fun w => drift_within p q y x w)
        rw [hsym] at H2
        clear hsym
        generalize decide (WithinD p q x y) = R at *
        go_wp2_with fail
        refine (H1.out _).mono ?_
        rintro e w2 ⟨rfl, hb⟩
        have HO4 := hid (ObjAt.below HO3.out hb)
        have HB4 := hid (below_step HB3.out HB3.out.size hb)
        clear c0 c1 hb HO3 HB3
        have c0 := ObjAt.cell HO4.out 0 (.int .i64 p) rfl
        have c1 := ObjAt.cell HO4.out 1 (.int .i64 q) rfl
        have hR : (R == R) = true := beq_self_eq_true R
        go_wp2_with fail
        refine (H2.out _).mono ?_
        rintro e w2 ⟨rfl, hb⟩
        have HB5 := hid (below_step HB4.out HB4.out.size hb)
        clear c0 c1 hb HO4 HB4
        go_wp2_with fail
        refine (awake18 _).mono ?_
        rintro e w3 ⟨rfl, hb⟩
        have HB6 := hid (below_step HB5.out HB5.out.size hb)
        clear hb HB5
        go_wp2
        go_ret
        exact ⟨rfl, HB6.out⟩
def T : Ty := .pair (.pair (.pair (.int .i64) (.pair (.int .i64) .unit)) (.pair (.int .i64) (.pair (.int .i64) (.pair (.int .i64) .unit)))) .unit
theorem walk' (W : World) (vs : List Value) (el : T.El) (hr : ArgsRd W T vs el) (hf : Fit T el) : Calls Try.prog 5 vs.toArray W fun e w' => e = .returned (.bool true) ∧ Below W.heap.size W w' := by
  obtain ⟨v, r, cs, rfl, hv, hx, rfl⟩ := hr
  obtain ⟨c1, c2, rfl, -, ⟨c3, c4, rfl, -, ⟨rfl, -⟩, c5, c6, rfl, -, ⟨rfl, -⟩, rfl⟩, ⟨c7, c8, rfl, -, ⟨rfl, -⟩, c9, c10, rfl, -, ⟨rfl, -⟩, c11, c12, rfl, -, ⟨rfl, -⟩, rfl⟩⟩ := hx
  have hv' : v = .agg _ := hv
  rw [hv']
  exact walk _ _ _ _ _ W

theorem own : ownKnob Try.prog.godebug = none := by kernel_rfl
theorem laidOut : laidOutB Try.prog = true := by kernel_rfl

set_option maxRecDepth 100000 in
theorem lifted (os : Os) (started : os.Started) (H : Type) (enc : TypeId × Value → H) :
    ReturnsInHanded {} Try.checked os 5 .any (Rows.leaseDriftsSpec.pre6 enc Try.prog Try.f5 Rows.leaseDriftsRow.domain false) (Rows.leaseDriftsSpec.post enc Try.prog Try.f5 false true false false) := by
  refine returnsInHanded_of_change_sized (C := Try.checked) own started (by kernel_rfl) Try.func5
    (ChangeSpec.witness6 (enc := enc) (C := Try.checked) false ⟨#[], #[.agg #[.int .i64 0, .int .i64 0, .int .i64 0, .int .i64 0, .int .i64 0]], []⟩ 16 (by kernel_rfl) (by kernel_rfl) (by kernel_rfl) (by kernel_rfl)) ?_
  intro W base args ds gs before hval hW _ hsz _
  exact law_said T (by kernel_rfl) laidOut (by kernel_rfl) rfl rfl Try.underlying4 (fun ds h => by
    match ds, h with
    | [d0], _ => rfl) walk' W base args ds gs before hval hW hsz

theorem over : Rows.leaseDriftsRow.holds Try.pinned (OpenSpec.ofChange Rows.leaseDriftsSpec) :=
  OpenClaim.holds_of_wide 5 Try.f5 rfl rfl rfl rfl rfl rfl rfl ⟨rfl, rfl, rfl, rfl, rfl⟩ rfl rfl rfl rfl rfl (by kernel_rfl) Try.func5 (by kernel_rfl)
    (of_decide_eq_true (by kernel_rfl)) (by unfold Func.isWrapper; first | (rw [if_pos (by decide +kernel)]; kernel_rfl) | (rw [if_neg (by decide +kernel)]; exact ⟨rfl, rfl⟩))
    (fun os started H enc _ => lifted os started H enc)

theorem proved : Rows.LeaseDriftsSaid := over
#print axioms proved
end Go.Proofs.Ytebmhjphnlgojaa.leaseDrifts
