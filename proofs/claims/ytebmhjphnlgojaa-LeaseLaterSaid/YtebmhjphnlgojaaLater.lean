/-
  LeaseLater.
-/
import Derived.Test.YtebmhjphnlgojaaAwake18
import Derived.Test.YtebmhjphnlgojaaArgs
namespace Go.Proofs.Ytebmhjphnlgojaa.leaseLater
open Go.RowKit
set_option maxRecDepth 20000
set_option linter.unusedVariables false

theorem drew_obj {w : World} {b : Nat} {t : TypeId} {cs : Array Value} (h : ObjAt w b t cs) : ObjAt w.drew b t cs := h
theorem renewed_ok {p q u s n : Int} (hr : RightD p q) (hl : RightL n) (ht : RightT s) : renewed p q u s n = max u (s + (n * q).tdiv p) ∧ renewedE p q s n = 0 := by
  unfold renewed renewedE; rw [if_pos ⟨hr, hl, ht⟩, if_pos hr, if_pos hl, if_pos ht]; exact ⟨rfl, rfl⟩
theorem renewed_noL {p q u s n : Int} (hr : RightD p q) (hl : ¬RightL n) : renewed p q u s n = u ∧ renewedE p q s n = 153 := by
  unfold renewed renewedE; rw [if_neg (fun h => hl h.2.1), if_pos hr, if_neg hl]; exact ⟨rfl, rfl⟩
theorem renewed_noT {p q u s n : Int} (hr : RightD p q) (hl : RightL n) (ht : ¬RightT s) : renewed p q u s n = u ∧ renewedE p q s n = 63 := by
  unfold renewed renewedE; rw [if_neg (fun h => ht h.2.2), if_pos hr, if_pos hl, if_neg ht]; exact ⟨rfl, rfl⟩

set_option maxHeartbeats 3200000 in
theorem walk (p q n x y : Int) (w : World) : Calls Try.prog 3 #[.agg #[.int .i64 p, .int .i64 q, .int .i64 n, .int .i64 x, .int .i64 y]] w fun e w' => e = .returned (.bool true) ∧ Below w.heap.size w w' := by
  go_enter Try.func3, Try.ntmps3
  go_wp2_with fail
  go_region
  go_wp2_with fail
  have hz : (w.alloc (.cells #[.int .i64 p, .int .i64 q, .int .i64 n, .int .i64 x, .int .i64 y] 25)).heap.size = w.heap.size + 1 := by unfold World.alloc; simp
  have HO := hid (drew_obj (ObjAt.new (w.alloc (.cells #[.int .i64 p, .int .i64 q, .int .i64 n, .int .i64 x, .int .i64 y] 25)) 23 #[.int .i64 p, .int .i64 q]))
  rw [hz] at HO
  have HB := hid ((((Below.refl w.heap.size w).alloc (Nat.le_refl _) (.cells #[.int .i64 p, .int .i64 q, .int .i64 n, .int .i64 x, .int .i64 y] 25)).alloc (by omega) (.cells #[.int .i64 p, .int .i64 q] 23)).drew)
  clear hz
  generalize ((w.alloc (.cells #[.int .i64 p, .int .i64 q, .int .i64 n, .int .i64 x, .int .i64 y] 25)).alloc (.cells #[.int .i64 p, .int .i64 q] 23)).drew = W1 at HO HB ⊢
  generalize w.heap.size + 1 = d at *
  refine (new_holder p q _).mono ?_
  rintro e w2 ⟨hb, h1, h0⟩
  have HO2 := hid (ObjAt.below HO.out hb)
  have HB2 := hid (below_step HB.out HB.out.size hb)
  have HS := hid hb.size
  have c0 := ObjAt.cell HO2.out 0 (.int .i64 p) rfl
  have c1 := ObjAt.cell HO2.out 1 (.int .i64 q) rfl
  by_cases hr : RightD p q
  · obtain ⟨b, rfl, hb2, hh⟩ := h1 hr
    have HH := hid hh
    have HR := hid hr
    have hbs : w.heap.size ≤ b := Nat.le_trans HB.out.size hb2
    have hd : b < w2.heap.size := ObjAt.lt HH.out
    clear h1 h0 hb2 hh hb hr HO HB HS
    go_wp2_with fail
    refine (new_holder p q _).mono ?_
    rintro e w3 ⟨hb, h1, -⟩
    obtain ⟨g, rfl, hg2, hg⟩ := h1 HR.out
    have HG := hid hg
    have HH3 := hid (ObjAt.below HH.out hb)
    have HB3 := hid (below_step HB2.out HB2.out.size hb)
    have hne : g ≠ b := by omega
    have hgs : w.heap.size ≤ g := by omega
    clear h1 hg2 hg hb HH HB2 HO2 c0 c1 hd
    go_wp2_with fail
    refine (holder_renewed b p q 0 x n _ HH3.out).mono ?_
    rintro e w4 ⟨rfl, hh, hk⟩
    have HH4 := hid hh
    have HG4 := hid (ObjAt.kept HG.out hk hne)
    have HB4 := hid (below_kept HB3.out hk hbs HB3.out.size)
    clear hh hk HH3 HG HB3
    go_wp2_with fail
    refine (holder_renewed g p q 0 y n _ HG4.out).mono ?_
    rintro e w5 ⟨rfl, hg, hk⟩
    have HG5 := hid hg
    have HH5 := hid (ObjAt.kept HH4.out hk (Ne.symm hne))
    have HB5 := hid (below_kept HB4.out hk hgs HB4.out.size)
    clear hg hk HH4 HG4 HB4
    by_cases hl : RightL n
    · by_cases hx : RightT x
      · by_cases hy : RightT y
        · rw [(renewed_ok (u := 0) HR.out hl hx).1] at HH5
          rw [(renewed_ok (u := 0) HR.out hl hy).1] at HG5
          rw [(renewed_ok (u := 0) HR.out hl hx).2, (renewed_ok (u := 0) HR.out hl hy).2]
          have hkb := hold_bound HR.out hl
          have HX := hid (fun u => renewed_ok (u := u) HR.out hl hx)
          have HY := hid (fun u => renewed_ok (u := u) HR.out hl hy)
          generalize (n * q).tdiv p = k at *
          have hx1 := hx.1
          have hx2 := hx.2
          have hy1 := hy.1
          have hy2 := hy.2
          have hl2 := hl.2
          clear hx hy hl HR
          rw [show max 0 (x + k) = x + k from by omega] at HH5
          rw [show max 0 (y + k) = y + k from by omega] at HG5
          have hw : wrap64 (x + n) = x + n := w64 (by omega) (by omega)
          have HM1 := hid (holder_until b p q _ _ HH5.out)
          have HM2 := hid (holder_until g p q _ _ HG5.out)
          have hcmp : decide (x ≤ y) = decide (x + k ≤ y + k) := decide_eq_decide.mpr ⟨fun h => by omega, fun h => by omega⟩
          go_wp2_with fail
          refine HM1.out.mono ?_
          rintro e w6 ⟨rfl, rfl⟩
          go_wp2_with fail
          refine HM2.out.mono ?_
          rintro e w6 ⟨rfl, rfl⟩
          by_cases hxy : x < y
          · have hxk : x + k < y + k := by omega
            clear hcmp
            go_wp2_with fail
            refine HM1.out.mono ?_
            rintro e w6 ⟨rfl, rfl⟩
            go_wp2_with fail
            refine HM1.out.mono ?_
            rintro e w6 ⟨rfl, rfl⟩
            go_wp2_with fail
            refine HM1.out.mono ?_
            rintro e w6 ⟨rfl, rfl⟩
            go_wp2_with fail
            refine HM2.out.mono ?_
            rintro e w6 ⟨rfl, rfl⟩
            have HC1 := hid (holder_renewed b p q _ y n _ HH5.out)
            rw [(HY.out _).1, (HY.out 0).2, show max (x + k) (y + k) = y + k from by omega] at HC1
            go_wp2_with fail
            refine HC1.out.mono ?_
            rintro e w6 ⟨rfl, hh, hk⟩
            have HH6 := hid hh
            have HG6 := hid (ObjAt.kept HG5.out hk hne)
            have HB6 := hid (below_kept HB5.out hk hbs HB5.out.size)
            clear hh hk HH5 HG5 HB5 HM1 HM2 HC1
            have HC1 := hid (holder_renewed g p q _ x n _ HG6.out)
            rw [(HX.out _).1, (HX.out 0).2, show max (y + k) (x + k) = y + k from by omega] at HC1
            go_wp2_with fail
            refine HC1.out.mono ?_
            rintro e w7 ⟨rfl, hg, hk⟩
            have HG7 := hid hg
            have HH7 := hid (ObjAt.kept HH6.out hk (Ne.symm hne))
            have HB7 := hid (below_kept HB6.out hk hgs HB6.out.size)
            clear hg hk HH6 HG6 HB6 HC1
            have HM1 := hid (holder_until b p q _ _ HH7.out)
            have HM2 := hid (holder_until g p q _ _ HG7.out)
            go_wp2_with fail
            refine HM1.out.mono ?_
            rintro e w8 ⟨rfl, rfl⟩
            go_wp2_with fail
            refine HM2.out.mono ?_
            rintro e w8 ⟨rfl, rfl⟩
            go_wp2_with fail
            refine (awake18 _).mono ?_
            rintro e w8 ⟨rfl, hb⟩
            have HB8 := hid (below_step HB7.out HB7.out.size hb)
            clear hb HB7 HM1 HM2
            go_wp2
            go_ret
            exact ⟨rfl, HB8.out⟩
          · have hxk : ¬ x + k < y + k := by omega
            clear hcmp
            go_wp2_with fail
            refine HM1.out.mono ?_
            rintro e w6 ⟨rfl, rfl⟩
            go_wp2_with fail
            refine HM1.out.mono ?_
            rintro e w6 ⟨rfl, rfl⟩
            go_wp2_with fail
            refine HM1.out.mono ?_
            rintro e w6 ⟨rfl, rfl⟩
            go_wp2_with fail
            refine HM2.out.mono ?_
            rintro e w6 ⟨rfl, rfl⟩
            have HC1 := hid (holder_renewed b p q _ y n _ HH5.out)
            rw [(HY.out _).1, (HY.out 0).2, show max (x + k) (y + k) = x + k from by omega] at HC1
            go_wp2_with fail
            refine HC1.out.mono ?_
            rintro e w6 ⟨rfl, hh, hk⟩
            have HH6 := hid hh
            have HG6 := hid (ObjAt.kept HG5.out hk hne)
            have HB6 := hid (below_kept HB5.out hk hbs HB5.out.size)
            clear hh hk HH5 HG5 HB5 HM1 HM2 HC1
            have HC1 := hid (holder_renewed g p q _ x n _ HG6.out)
            rw [(HX.out _).1, (HX.out 0).2, show max (y + k) (x + k) = x + k from by omega] at HC1
            go_wp2_with fail
            refine HC1.out.mono ?_
            rintro e w7 ⟨rfl, hg, hk⟩
            have HG7 := hid hg
            have HH7 := hid (ObjAt.kept HH6.out hk (Ne.symm hne))
            have HB7 := hid (below_kept HB6.out hk hgs HB6.out.size)
            clear hg hk HH6 HG6 HB6 HC1
            have HM1 := hid (holder_until b p q _ _ HH7.out)
            have HM2 := hid (holder_until g p q _ _ HG7.out)
            go_wp2_with fail
            refine HM1.out.mono ?_
            rintro e w8 ⟨rfl, rfl⟩
            go_wp2_with fail
            refine HM2.out.mono ?_
            rintro e w8 ⟨rfl, rfl⟩
            go_wp2_with fail
            refine (awake18 _).mono ?_
            rintro e w8 ⟨rfl, hb⟩
            have HB8 := hid (below_step HB7.out HB7.out.size hb)
            clear hb HB7 HM1 HM2
            go_wp2
            go_ret
            exact ⟨rfl, HB8.out⟩
        · rw [(renewed_ok (u := 0) HR.out hl hx).2, (renewed_noT (u := 0) HR.out hl hy).2]
          have hl1 := hl.1
          have hl2 := hl.2
          have HX := hid hx
          have HY := hid hy
          clear hx hy hl HH5 HG5
          go_wp2_with fail
          refine (ref_time x _).mono ?_
          rintro e w6 ⟨rfl, rfl⟩
          rw [decide_eq_true HX.out]
          go_wp2_with fail
          refine (ref_time y _).mono ?_
          rintro e w6 ⟨rfl, rfl⟩
          rw [decide_eq_false HY.out]
          go_wp2_with fail
          refine (awake18 _).mono ?_
          rintro e w6 ⟨rfl, hb⟩
          have HB6 := hid (below_step HB5.out HB5.out.size hb)
          clear hb HB5
          go_wp2
          go_ret
          exact ⟨rfl, HB6.out⟩
      · rw [(renewed_noT (u := 0) HR.out hl hx).2]
        generalize renewedE p q y n = E
        have hl1 := hl.1
        have hl2 := hl.2
        have HX := hid hx
        clear hx hl HH5 HG5
        go_wp2_with fail
        refine (ref_time x _).mono ?_
        rintro e w6 ⟨rfl, rfl⟩
        rw [decide_eq_false HX.out]
        go_wp2_with fail
        refine (awake18 _).mono ?_
        rintro e w6 ⟨rfl, hb⟩
        have HB6 := hid (below_step HB5.out HB5.out.size hb)
        clear hb HB5
        go_wp2
        go_ret
        exact ⟨rfl, HB6.out⟩
    · rw [(renewed_noL (s := x) (u := 0) HR.out hl).2, (renewed_noL (s := y) (u := 0) HR.out hl).2]
      clear HH5 HG5
      by_cases hn : n < 1
      · clear hl
        go_wp2_with fail
        refine (awake18 _).mono ?_
        rintro e w6 ⟨rfl, hb⟩
        have HB6 := hid (below_step HB5.out HB5.out.size hb)
        clear hb HB5
        go_wp2
        go_ret
        exact ⟨rfl, HB6.out⟩
      · have hn2 : 1048576 < n := by
          exact Int.not_le.mp (fun h => hl ⟨by omega, h⟩)
        clear hl
        go_wp2_with fail
        refine (awake18 _).mono ?_
        rintro e w6 ⟨rfl, hb⟩
        have HB6 := hid (below_step HB5.out HB5.out.size hb)
        clear hb HB5
        go_wp2
        go_ret
        exact ⟨rfl, HB6.out⟩
  · obtain rfl := h0 hr
    have HR := hid hr
    clear h1 h0 hb hr HO HB HS
    go_wp2_with fail
    refine (new_holder p q _).mono ?_
    rintro e w3 ⟨hb, -, h0⟩
    obtain rfl := h0 HR.out
    have HO3 := hid (ObjAt.below HO2.out hb)
    have HB3 := hid (below_step HB2.out HB2.out.size hb)
    clear h0 hb HB2 HO2 c0 c1
    have c0 := ObjAt.cell HO3.out 0 (.int .i64 p) rfl
    have c1 := ObjAt.cell HO3.out 1 (.int .i64 q) rfl
    go_wp2_with fail
    refine (ref_right p q _).mono ?_
    rintro e w4 ⟨rfl, rfl⟩
    rw [decide_eq_false HR.out]
    go_wp2_with fail
    refine (awake18 _).mono ?_
    rintro e w4 ⟨rfl, hb⟩
    have HB4 := hid (below_step HB3.out HB3.out.size hb)
    clear hb HB3 HO3 c0 c1
    go_wp2
    go_ret
    exact ⟨rfl, HB4.out⟩
def T : Ty := .pair (.pair (.pair (.int .i64) (.pair (.int .i64) .unit)) (.pair (.int .i64) (.pair (.int .i64) (.pair (.int .i64) .unit)))) .unit
theorem walk' (W : World) (vs : List Value) (el : T.El) (hr : ArgsRd W T vs el) (hf : Fit T el) : Calls Try.prog 3 vs.toArray W fun e w' => e = .returned (.bool true) ∧ Below W.heap.size W w' := by
  obtain ⟨v, r, cs, rfl, hv, hx, rfl⟩ := hr
  obtain ⟨c1, c2, rfl, -, ⟨c3, c4, rfl, -, ⟨rfl, -⟩, c5, c6, rfl, -, ⟨rfl, -⟩, rfl⟩, ⟨c7, c8, rfl, -, ⟨rfl, -⟩, c9, c10, rfl, -, ⟨rfl, -⟩, c11, c12, rfl, -, ⟨rfl, -⟩, rfl⟩⟩ := hx
  have hv' : v = .agg _ := hv
  rw [hv']
  exact walk _ _ _ _ _ W

theorem own : ownKnob Try.prog.godebug = none := by kernel_rfl
theorem laidOut : laidOutB Try.prog = true := by kernel_rfl

set_option maxRecDepth 100000 in
theorem lifted (os : Os) (started : os.Started) (H : Type) (enc : TypeId × Value → H) :
    ReturnsInHanded {} Try.checked os 3 .any (Rows.leaseLaterSpec.pre6 enc Try.prog Try.f3 Rows.leaseLaterRow.domain false) (Rows.leaseLaterSpec.post enc Try.prog Try.f3 false true false false) := by
  refine returnsInHanded_of_change_sized (C := Try.checked) own started (by kernel_rfl) Try.func3
    (ChangeSpec.witness6 (enc := enc) (C := Try.checked) false ⟨#[], #[.agg #[.int .i64 0, .int .i64 0, .int .i64 0, .int .i64 0, .int .i64 0]], []⟩ 16 (by kernel_rfl) (by kernel_rfl) (by kernel_rfl) (by kernel_rfl)) ?_
  intro W base args ds gs before hval hW _ hsz _
  exact law_said T (by kernel_rfl) laidOut (by kernel_rfl) rfl rfl Try.underlying4 (fun ds h => by
    match ds, h with
    | [d0], _ => rfl) walk' W base args ds gs before hval hW hsz

theorem over : Rows.leaseLaterRow.holds Try.pinned (OpenSpec.ofChange Rows.leaseLaterSpec) :=
  OpenClaim.holds_of_wide 3 Try.f3 rfl rfl rfl rfl rfl rfl rfl ⟨rfl, rfl, rfl, rfl, rfl⟩ rfl rfl rfl rfl rfl (by kernel_rfl) Try.func3 (by kernel_rfl)
    (of_decide_eq_true (by kernel_rfl)) (by unfold Func.isWrapper; first | (rw [if_pos (by decide +kernel)]; kernel_rfl) | (rw [if_neg (by decide +kernel)]; exact ⟨rfl, rfl⟩))
    (fun os started H enc _ => lifted os started H enc)

theorem proved : Rows.LeaseLaterSaid := over
#print axioms proved
end Go.Proofs.Ytebmhjphnlgojaa.leaseLater
