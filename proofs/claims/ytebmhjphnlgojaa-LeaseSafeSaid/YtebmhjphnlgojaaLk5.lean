/-
  LeaseSafe: the walk.
-/
import Derived.Test.YtebmhjphnlgojaaLk4
import Derived.Deep.DeepCutAuto
namespace Go.Proofs.Ytebmhjphnlgojaa
open Go.RowKit
set_option maxRecDepth 20000
set_option linter.unusedVariables false

theorem infoI : (Try.prog.info? 3).map (fun i => (i.zero, i.size, i.bytes)) = some (some (.int .i64 0), 1, 8) := by kernel_rfl

theorem made_zero {w1 : World} {base n : Nat} (g : Nat) (ho : w1.ownsRow base 3 1 (.slice (some ⟨g, 0, none⟩) n n) n (madeCells (Value.int .i64 0).cells (n * 1)).toList) : ∃ cu, ObjAt w1 g 3 cu ∧ Cells cu (List.replicate n 0) := by
  rcases ho.2 with ⟨e, _⟩ | ⟨g, cap, cur, e, _, hgg, _, _, hcs, ht⟩
  · simp at e
  simp only [Value.slice.injEq, Option.some.injEq, Addr.mk.injEq, and_true, true_and] at e
  obtain ⟨rfl, rfl⟩ := e
  refine ⟨cur, hgg, by rw [List.length_replicate]; omega, fun m hm => ?_⟩
  rw [List.length_replicate] at hm
  have := congrArg (fun x => x[m]?) ht
  simp only [Value.cells, Nat.mul_one] at this
  rw [List.take_of_length_le (by simp; omega)] at this
  simpa [madeCells, hm, Nat.mod_one] using this
theorem row_of_own {w : World} {base : Nat} {e : TypeId} {size n c : Nat} {a : Option Addr} {xs : List Value} (h : w.ownsRow base e size (.slice a n c) n xs) : RowAt w a xs := by
  obtain ⟨a', c', e, hr, -⟩ := owns_row h
  cases e; exact hr
theorem renew_ok {p q U s n : Int} (hr : RightD p q) (hn : RightL n) (hs : RightT s) : renewedE p q s n = 0 ∧ renewed p q U s n = max U (s + (n * q).tdiv p) := by
  unfold renewedE renewed
  rw [if_pos hr, if_pos hn, if_pos hs, if_pos ⟨hr, hn, hs⟩]
  exact ⟨rfl, rfl⟩

set_option maxHeartbeats 8000000 in
theorem safe_walk (p q n : Int) (a : Option Addr) (c : Nat) (l : List TSt.El) (w : World) (hrow : RowAt w a (l.flatMap stC)) :
    Calls Try.prog 6 #[drift p q, .int .i64 n, .slice a l.length c] w fun e w' => e = .returned (.bool true) ∧ Below w.heap.size w w' := by
  have HROW := hid hrow
  clear hrow
  have hd : drift p q = .agg #[.int .i64 p, .int .i64 q] := rfl
  rw [hd]
  clear hd
  obtain ⟨i0, hi0, hz0, hs0, hy0⟩ := info_parts infoI
  go_enter Try.func6, Try.ntmps6
  go_upto_region 1 with fail
  have HDR := hid (ObjAt.new w 23 #[.int .i64 p, .int .i64 q])
  have HB1 := hid (below_new (w := w) (.cells #[.int .i64 p, .int .i64 q] 23))
  generalize w.alloc (.cells #[.int .i64 p, .int .i64 q] 23) = w1 at *
  have hs1 := HB1.out.size
  have hdd : w.heap.size ≤ w.heap.size := Nat.le_refl _
  generalize hddw : w.heap.size = dd at *
  have HDD := hid hddw
  clear hddw
  have d0 := HDR.out.cell 0 (.int .i64 p) rfl
  have d1 := HDR.out.cell 1 (.int .i64 q) rfl
  go_wp2_with fail
  refine (new_holder p q w1).mono ?_
  rintro e w2 ⟨hb, hy, hn⟩
  have HDR2 := hid (HDR.out.below hb)
  have HB2 := hid (HB1.out.trans (hb.mono hs1))
  have hs2 := Nat.le_trans hs1 hb.size
  by_cases hr : RightD p q
  · obtain ⟨hbk, rfl, hh1, hh2⟩ := hy hr
    have HH := hid hh2
    have hhb : dd ≤ hbk := by omega
    have HRD := hid hr
    clear hy hn hb hh2 HDR HB1 d0 d1 hr
    go_wp2_with fail
    refine (new_keeper w2).mono ?_
    rintro e w3 ⟨kb, rfl, hk, hb, hkb⟩
    have HK := hid hk
    have HDR3 := hid (HDR2.out.below hb)
    have HH3 : Hid (HAt w3 hbk p q 0) := ObjAt.below HH.out hb
    have HB3 := hid (HB2.out.trans (hb.mono hs2))
    have hs3 := Nat.le_trans hs2 hb.size
    have hkb2 : dd ≤ kb := by omega
    clear hk hb HDR2 HH HB2
    by_cases hn : RightL n
    · obtain ⟨hn1, hn2⟩ := id hn
      have HRL := hid hn
      clear hn
      by_cases hl : 200 < l.length
      · have hl2 : ¬ n < 1 := by omega
        have hl3 : ¬ 1048576 < n := by omega
        go_wp2_with fail
        refine (awake18 _).mono ?_
        rintro e w5 ⟨rfl, hb⟩
        have HBE := hid (HB3.out.trans (hb.mono hs3))
        clear hb
        go_wp2_with fail
        go_ret
        exact ⟨rfl, by rw [HDD.out]; exact HBE.out⟩
      · have hl2 : ¬ n < 1 := by omega
        have hl3 : ¬ 1048576 < n := by omega
        have hl4 : l.length ≤ 200 := by omega
        go_wp2_with (at_make; refine wpList_make_full _ rfl _ _ 36 rfl w3.heap.size 3 i0 (.int .i64 0) 1 Try.underlying36 hi0 hz0 hs0 _ _ _ _ (l.length + 1) rfl rfl rfl rfl (by rw [hy0]; omega) (by unfold maxLen; omega) (Nat.le_refl _) ?_; intro w4 ho hg; refine Stop.mk ?_)
        refine Stop.go ?_
        obtain ⟨cu, hO, hC⟩ := made_zero w3.heap.size ho
        have HAR := hid hO
        have HAC := hid hC
        have hb4 : Below w3.heap.size w3 w4 := (Below.refl w3.heap.size w3).grown hg (Nat.le_refl _) (fun k hk => by cases hk)
        have HK4 := hid (HK.out.below hb4)
        have HDR4 := hid (HDR3.out.below hb4)
        have HH4 : Hid (HAt w4 hbk p q 0) := ObjAt.below HH3.out hb4
        have HB4 := hid (HB3.out.trans (hb4.mono hs3))
        have hs4 := Nat.le_trans hs3 hb4.size
        have hga : dd ≤ w3.heap.size := hs3
        have hga4 : w3.heap.size < w4.heap.size := hO.lt
        clear ho hg hO hC hb4 HK HDR3 HH3 HB3
        generalize w3.heap.size = ga at *
        go_upto_region 11 with fail
        have HS5 := hid (ObjAt.new w4 51 (sArr n 0 (.slice none 0 0)))
        have hb5 := below_new (w := w4) (.cells (sArr n 0 (.slice none 0 0)) 51)
        have HAR5 := hid (HAR.out.below hb5)
        have HK5 := hid (HK4.out.below hb5)
        have HDR5 := hid (HDR4.out.below hb5)
        have HH5 : Hid (HAt (w4.alloc (.cells (sArr n 0 (.slice none 0 0)) 51)) hbk p q 0) := ObjAt.below HH4.out hb5
        have HB5 := hid (HB4.out.trans (hb5.mono hs4))
        have hs5 := Nat.le_trans hs4 hb5.size
        have hsb := HS5.out.lt
        clear hb5 HAR HK4 HDR4 HH4 HB4
        generalize w4.alloc (.cells (sArr n 0 (.slice none 0 0)) 51) = w5 at *
        generalize w4.heap.size = sb at *
        go_wp2_with fail
        refine (holder_renewed hbk p q 0 0 n w5 HH5.out).mono ?_
        rintro e w6 ⟨rfl, hh6, hk6⟩
        have ht0 : RightT 0 := by decide
        obtain ⟨e1, e2⟩ := renew_ok (U := 0) HRD.out HRL.out ht0
        rw [e1]
        rw [e2] at hh6
        have hHk : ObjAt w5 hbk 74 _ := HH5.out
        have HAR6 := hid (HAR5.out.kept hk6 (HAR5.out.ne_obj hHk (by decide)))
        have HK6 := hid (HK5.out.kept hk6 (HK5.out.ne_obj hHk (by decide)))
        have HDR6 := hid (HDR5.out.kept hk6 (HDR5.out.ne_obj hHk (by decide)))
        have HS6 := hid (HS5.out.kept hk6 (HS5.out.ne_obj hHk (by decide)))
        have HB6 := hid (HB5.out.trans ((hk6.mono hs5).below hhb))
        have hs6 := Nat.le_trans hs5 hk6.size
        have hsb6 := HS6.out.lt
        have HH6 := hid hh6
        clear hh6 hk6 hHk HAR5 HK5 HDR5 HS5 HB5 HH5 e1 e2 hsb
        have x0 := HS6.out.cell 0 (.string ⟨#[97]⟩) rfl
        have x1 := HS6.out.cell 1 (.int .i64 1) rfl
        have x2 := HS6.out.cell 2 (.int .i64 0) rfl
        have x3 := HS6.out.cell 3 (.int .i64 n) rfl
        have x4 := HS6.out.cell 4 (.int .i64 0) rfl
        have x5 := HS6.out.cell 5 (.int .i64 0) rfl
        have x6 := HS6.out.cell 6 (.slice none 0 0) rfl
        have hb7 := below_new (w := w6) (.cells (sArr n 0 (.slice none 0 0)) 51)
        have HRT := hid (RowAt.new w6 (sArr n 0 (.slice none 0 0)) 51 (0, 0))
        have HAR7 := hid (HAR6.out.below hb7)
        have HK7 := hid (HK6.out.below hb7)
        have HDR7 := hid (HDR6.out.below hb7)
        have HS7 := hid (HS6.out.below hb7)
        have HH7 : Hid (HAt (w6.alloc (.cells (sArr n 0 (.slice none 0 0)) 51)) hbk p q _) := ObjAt.below HH6.out hb7
        have HB7 := hid (HB6.out.trans (hb7.mono hs6))
        have hs7 := Nat.le_trans hs6 hb7.size
        have hk6 := HK6.out.lt
        clear hb7
        go_wp2_with fail
        refine (note_any kb 0 0 none n 0 0 0 0 0 _ _ _ HK7.out (by omega) (fun h => absurd h (by decide)) (fun _ e => by cases e) HRT.out (fun ad e => by cases e; show w6.heap.size ≠ kb; omega) ht0 (by omega)).mono ?_
        rintro e w8 hp
        have he8 := hp.1
        obtain ⟨-, g8, c8, k8, o8, hk8⟩ := hp
        subst he8
        have HLM : Hid (LM dd w w8 dd hbk kb ga sb sb p q n (max 0 (0 + (n * q).tdiv p)) 0 0 0 0 (.slice none 0 0) [] (List.replicate (l.length + 1) 0)) := by
          refine ⟨HB7.out.trans ((hk8.mono hs7).below hkb2), HDR7.out.kept hk8 (HDR7.out.ne_obj HK7.out (by decide)), ObjAt.kept HH7.out hk8 (ObjAt.ne_obj HH7.out HK7.out (by decide)), ⟨g8, c8, k8, owns_base o8 hs7⟩, ⟨cu, HAR7.out.kept hk8 (HAR7.out.ne_obj HK7.out (by decide)), HAC.out⟩, HS7.out.kept hk8 (HS7.out.ne_obj HK7.out (by decide)), ⟨rfl, .inl ⟨rfl, rfl⟩⟩, hga4, hhb, hkb2, hga, hs4, hs4, Nat.le_trans hs7 hk8.size⟩
        have HLP : Hid (LP p q n 0 0 0 0 0 (max 0 (0 + (n * q).tdiv p)) 0 [] (List.replicate (l.length + 1) 0)) := by
          have hbd := hold_bound HRD.out HRL.out
          refine ⟨by omega, by omega, by omega, by omega, by omega, by omega, by omega, by simp, by omega, by simp, fun x hx => ?_, by omega, by omega⟩
          have := List.eq_of_mem_replicate hx
          omega
        clear k8 o8 hk8 HAR6 HK6 HDR6 HS6 HB6 HH6 HAR7 HK7 HDR7 HS7 HH7 HB7 HRT HAC x0 x1 x2 x3 x4 x5 x6 hs7 hs6 hs5 hs3 hs2 hs1
        go_wp2_with fail
        go_loopw [10, 11, 12, 14, 76] (fun s10 s11 s12 s14 s76 wr => ∃ (i : Nat) (cl sv : Int) (bt : Nat) (vs : Value) (sl ar : List Int) (CL SL U Bc : Int), s10 = .int .i64 cl ∧ s11 = .int .i64 sv ∧ s12 = .int .i64 bt ∧ s14 = vs ∧ s76 = .int .i64 i ∧ i ≤ l.length ∧ ar.length = l.length + 1 ∧ sl.length ≤ i ∧ bt ≤ sl.length ∧ Hid (LM dd w wr dd hbk kb ga sb sb p q n U sv Bc SL Bc vs sl ar) ∧ Hid (LP p q n i cl sv CL SL U Bc sl ar)) (fun _ _ _ _ s76 _ => l.length - (intOf s76).toNat)
        case atStart => exact ⟨0, 0, 0, 0, _, [], _, 0, 0, _, 0, rfl, rfl, rfl, rfl, rfl, Nat.zero_le _, by simp, by simp, by simp, HLM.out, HLP.out⟩
        case round =>
          clear HLM HLP
          obtain ⟨i, cl, sv, bt, vs, sl, ar, CL, SL, U, Bc, rfl, rfl, rfl, rfl, rfl, hi, har, hsl, hbt, HM, HP⟩ := hrel
          have HAL := hid har
          clear har
          have hsz := HM.out.sz
          by_cases hlt : i < l.length
          · have HRw := hid (HROW.out.below (by rw [HDD.out]; exact HM.out.bel))
            obtain ⟨ab, ao, rfl, r0, r1, r2, r3⟩ := row_st HRw.out hlt
            obtain ⟨x, hx⟩ : ∃ x : Int, x = l[i].1 := ⟨_, rfl⟩
            obtain ⟨y, hy⟩ : ∃ x : Int, x = l[i].2.1 := ⟨_, rfl⟩
            obtain ⟨rn, hrn⟩ : ∃ x : Bool, x = l[i].2.2.1 := ⟨_, rfl⟩
            obtain ⟨lt, hlt0⟩ : ∃ x : Int, x = l[i].2.2.2.1 := ⟨_, rfl⟩
            rw [← hx] at r0
            rw [← hy] at r1
            rw [← hrn] at r2
            rw [← hlt0] at r3
            clear hx hy hrn hlt0
            go_upto_region 16 with fail
            have HT := hid (ObjAt.new wr 54 #[.int .i64 x, .int .i64 y, .bool rn, .int .i64 lt])
            have HM2 := hid (HM.out.below (below_new (w := wr) (.cells #[.int .i64 x, .int .i64 y, .bool rn, .int .i64 lt] 54)))
            have hzt : dd ≤ wr.heap.size := hsz
            clear r0 r1 r2 r3 HM HRw
            generalize wr.alloc (.cells #[.int .i64 x, .int .i64 y, .bool rn, .int .i64 lt] 54) = w2 at *
            generalize wr.heap.size = tb at *
            have d0 := HM2.out.dr.cell 0 (.int .i64 p) rfl
            have d1 := HM2.out.dr.cell 1 (.int .i64 q) rfl
            have t0 := HT.out.cell 0 (.int .i64 x) rfl
            have t1 := HT.out.cell 1 (.int .i64 y) rfl
            have hsz2 := HM2.out.sz
            go_wp2_with fail
            refine (drift_within p q x y w2).mono ?_
            rintro e w3 ⟨rfl, hb⟩
            have HT3 := hid (HT.out.below hb)
            have HM3 := hid (HM2.out.below hb)
            clear d0 d1 t0 t1 hb HT HM2
            have t0 := HT3.out.cell 0 (.int .i64 x) rfl
            have t1 := HT3.out.cell 1 (.int .i64 y) rfl
            have hsz3 := HM3.out.sz
            by_cases hok : WithinD p q x y ∧ x ≤ 1048576 ∧ y ≤ 1048576
            · obtain ⟨hwi, hx1, hy1⟩ := hok
              rw [decide_eq_true hwi]
              have HCK := hid (HP.out.clocks hwi hx1 hy1)
              have HP' := hid hwi
              clear hwi
              have hw1 : IntKind.i64.wrap (cl + x) = cl + x := by rw [IntKind.wrap_i64]; have := HCK.out; omega
              have hw2 : IntKind.i64.wrap (sv + y) = sv + y := by rw [IntKind.wrap_i64]; have := HCK.out; omega
              go_upto_region 18 with fail
              go_quiet (fail)
              have hq := below_drewN' (B := w3.heap.size) (w := w3) nq
              have HM4 := hid (HM3.out.below hq)
              have HT4 := hid (HT3.out.below hq)
              clear hq t0 t1 HM3 HT3 hw1 hw2
              obtain ⟨g1, g2, g3, g4, g5, g6, g7, g8⟩ := HCK.out
              have HSL := hid g8
              have HDR := hid g7
              clear g7 g8 HCK
              generalize w3.drewN nq = wq at *
              have HUU := hid HP.out.u
              have HBB := hid (And.intro HP.out.b0 HP.out.b1)
              have HS0 := hid HP.out.ss0
              obtain ⟨CX, hCX⟩ : ∃ v : Int, v = cl + x := ⟨_, rfl⟩
              obtain ⟨SY, hSY⟩ : ∃ v : Int, v = sv + y := ⟨_, rfl⟩
              have hnow : sv ≤ SY := by have := HP'.out.2.2.1.1; omega
              rw [← hCX] at HSL g1 g2 g5 HDR ⊢
              rw [← hSY] at HDR g3 g4 g6 ⊢
              clear hCX hSY
              have hz4 := HM4.out.sz
              have t2 := HT4.out.cell 2 (.bool rn) rfl
              have t3 := HT4.out.cell 3 (.int .i64 lt) rfl
              have hi200 : i ≤ 200 := by omega
              go_upto_if 108 with fail
              go_cut [14, 18] from 109 to 135 (fun s14 s18 wx => ∃ (sl' ar' : List Int), sl'.length ≤ i + 1 ∧ bt ≤ sl'.length ∧ Hid (ar'.length = l.length + 1) ∧ Hid (LM dd w wx dd hbk kb ga sb sb p q n U sv Bc SL Bc s14 sl' ar') ∧ Hid (∀ z ∈ sl', 0 ≤ z ∧ z ≤ CX) ∧ Hid (∀ z ∈ ar', 0 ≤ z ∧ z ≤ (i + 1 : Nat)))
              case first =>
                cases rn with
                | false =>
                  go_wp2_with fail
                  go_meet
                  case rel => exact ⟨sl, ar, by omega, hbt, HAL.out, HM4.out, HSL.out, fun z hz => by have := HP.out.ar z hz; omega⟩
                | true =>
                  by_cases hla : 0 < lt ∧ lt ≤ (l.length : Int) - i
                  · obtain ⟨hl1, hl5⟩ := hla
                    obtain ⟨K, hK⟩ : ∃ K : Nat, (K : Int) = (i : Int) + lt := ⟨((i : Int) + lt).toNat, by omega⟩
                    go_upto_region 23 with fail
                    rw [← hK]
                    have hK2 : i ≤ K ∧ K ≤ l.length := by omega
                    clear hK t2 t3
                    have hKi : K < l.length + 1 := by omega
                    obtain ⟨cu3, ho3, hc3⟩ := HM4.out.ar
                    have hKa : K < ar.length := by have := HAL.out; omega
                    have hcell := ho3.cell K (.int .i64 ar[K]) (hc3.2 K hKa)
                    have hfro := ho3.frozen K
                    have hbd := HP.out.ar ar[K] (List.getElem_mem hKa)
                    obtain ⟨vK, hvK⟩ : ∃ v : Int, v = ar[K] := ⟨_, rfl⟩
                    rw [← hvK] at hcell hbd
                    obtain ⟨hb1, hb2⟩ := hbd
                    have hwv : wrap64 (vK + 1) = vK + 1 := w64 (by omega) (by omega)
                    have HM5 := hid (HM4.out.arr K (vK + 1))
                    have HAR5 : Hid (∀ z ∈ ar.set K (vK + 1), 0 ≤ z ∧ z ≤ (i + 1 : Nat)) := fun z hz => by
                      rcases List.mem_or_eq_of_mem_set hz with h | h
                      · have := HP.out.ar z h; omega
                      · omega
                    have HAL5 : Hid ((ar.set K (vK + 1)).length = l.length + 1) := by
                      show _ = _
                      rw [List.length_set]; exact HAL.out
                    clear ho3 hc3 hvK
                    go_upto_region 24 with fail
                    clear hcell hfro hwv
                    generalize wq.setCell ⟨ga, K, none⟩ (.int .i64 (vK + 1)) = w5 at *
                    generalize ar.set K (vK + 1) = ar5 at *
                    have hs5 := HM5.out.sz
                    have HR5 := hid HM5.out.row
                    have hlm : (sl.map (Value.int .i64)).length = sl.length := List.length_map ..
                    have HR5' : Hid (w5.ownsRow sb 3 1 u14 (sl.map (Value.int .i64)).length (sl.map (Value.int .i64))) := by
                      show World.ownsRow _ _ _ _ _ _ _
                      rw [hlm]; exact HR5.out
                    have hsb5 : sb ≤ w5.heap.size := Nat.le_of_lt HM5.out.se.lt
                    clear hlm
                    go_wp2_with (at_builtin; refine wpList_app_oneG rfl (.tmp 132) (.tmp 134) 36 rfl sb 3 Try.underlying36 infoI rfl _ (sl.map (Value.int .i64)) (.int .i64 CX) rfl HR5'.out rfl rfl (by rw [List.length_map]; omega) (by rw [List.length_map]; unfold maxLen; omega) hsb5 ?_; intro v6 w6 ho6 hk6; refine Stop.mk ?_)
                    refine Stop.go ?_
                    have HM6 := hid (HM5.out.sent (vs' := v6) (sl' := sl ++ [CX]) (by rw [List.map_append]; simpa using ho6) hk6)
                    clear ho6 hk6 HR5 HR5'
                    go_wp2_with fail
                    go_meet
                    case rel => exact ⟨sl ++ [CX], ar5, by simp; omega, by simp; omega, HAL5.out, HM6.out, (fun z hz => by
                      rcases List.mem_append.1 hz with h | h
                      · exact HSL.out z h
                      · have := List.mem_singleton.1 h; omega), HAR5.out⟩
                  · have hor : lt ≤ 0 ∨ (l.length : Int) - i < lt := by omega
                    have hK2 : i ≤ i ∧ i ≤ l.length := by omega
                    clear hla
                    by_cases hl1 : 0 < lt
                    · have hl5 : (l.length : Int) - i < lt := by omega
                      clear hor
                      go_upto_region 23 with fail
                      clear t2 t3
                      have hKi : i < l.length + 1 := by omega
                      obtain ⟨cu3, ho3, hc3⟩ := HM4.out.ar
                      have hKa : i < ar.length := by have := HAL.out; omega
                      have hcell := ho3.cell i (.int .i64 ar[i]) (hc3.2 i hKa)
                      have hfro := ho3.frozen i
                      have hbd := HP.out.ar ar[i] (List.getElem_mem hKa)
                      obtain ⟨vK, hvK⟩ : ∃ v : Int, v = ar[i] := ⟨_, rfl⟩
                      rw [← hvK] at hcell hbd
                      obtain ⟨hb1, hb2⟩ := hbd
                      have hwv : wrap64 (vK + 1) = vK + 1 := w64 (by omega) (by omega)
                      have HM5 := hid (HM4.out.arr i (vK + 1))
                      have HAR5 : Hid (∀ z ∈ ar.set i (vK + 1), 0 ≤ z ∧ z ≤ (i + 1 : Nat)) := fun z hz => by
                        rcases List.mem_or_eq_of_mem_set hz with h | h
                        · have := HP.out.ar z h; omega
                        · omega
                      have HAL5 : Hid ((ar.set i (vK + 1)).length = l.length + 1) := by
                        show _ = _
                        rw [List.length_set]; exact HAL.out
                      clear ho3 hc3 hvK
                      go_upto_region 24 with fail
                      clear hcell hfro hwv
                      generalize wq.setCell ⟨ga, i, none⟩ (.int .i64 (vK + 1)) = w5 at *
                      generalize ar.set i (vK + 1) = ar5 at *
                      have hs5 := HM5.out.sz
                      have HR5 := hid HM5.out.row
                      have hlm : (sl.map (Value.int .i64)).length = sl.length := List.length_map ..
                      have HR5' : Hid (w5.ownsRow sb 3 1 u14 (sl.map (Value.int .i64)).length (sl.map (Value.int .i64))) := by
                        show World.ownsRow _ _ _ _ _ _ _
                        rw [hlm]; exact HR5.out
                      have hsb5 : sb ≤ w5.heap.size := Nat.le_of_lt HM5.out.se.lt
                      clear hlm
                      go_wp2_with (at_builtin; refine wpList_app_oneG rfl (.tmp 132) (.tmp 134) 36 rfl sb 3 Try.underlying36 infoI rfl _ (sl.map (Value.int .i64)) (.int .i64 CX) rfl HR5'.out rfl rfl (by rw [List.length_map]; omega) (by rw [List.length_map]; unfold maxLen; omega) hsb5 ?_; intro v6 w6 ho6 hk6; refine Stop.mk ?_)
                      refine Stop.go ?_
                      have HM6 := hid (HM5.out.sent (vs' := v6) (sl' := sl ++ [CX]) (by rw [List.map_append]; simpa using ho6) hk6)
                      clear ho6 hk6 HR5 HR5'
                      go_wp2_with fail
                      go_meet
                      case rel => exact ⟨sl ++ [CX], ar5, by simp; omega, by simp; omega, HAL5.out, HM6.out, (fun z hz => by
                        rcases List.mem_append.1 hz with h | h
                        · exact HSL.out z h
                        · have := List.mem_singleton.1 h; omega), HAR5.out⟩
                    · clear hor
                      go_upto_region 23 with fail
                      clear t2 t3
                      have hKi : i < l.length + 1 := by omega
                      obtain ⟨cu3, ho3, hc3⟩ := HM4.out.ar
                      have hKa : i < ar.length := by have := HAL.out; omega
                      have hcell := ho3.cell i (.int .i64 ar[i]) (hc3.2 i hKa)
                      have hfro := ho3.frozen i
                      have hbd := HP.out.ar ar[i] (List.getElem_mem hKa)
                      obtain ⟨vK, hvK⟩ : ∃ v : Int, v = ar[i] := ⟨_, rfl⟩
                      rw [← hvK] at hcell hbd
                      obtain ⟨hb1, hb2⟩ := hbd
                      have hwv : wrap64 (vK + 1) = vK + 1 := w64 (by omega) (by omega)
                      have HM5 := hid (HM4.out.arr i (vK + 1))
                      have HAR5 : Hid (∀ z ∈ ar.set i (vK + 1), 0 ≤ z ∧ z ≤ (i + 1 : Nat)) := fun z hz => by
                        rcases List.mem_or_eq_of_mem_set hz with h | h
                        · have := HP.out.ar z h; omega
                        · omega
                      have HAL5 : Hid ((ar.set i (vK + 1)).length = l.length + 1) := by
                        show _ = _
                        rw [List.length_set]; exact HAL.out
                      clear ho3 hc3 hvK
                      go_upto_region 24 with fail
                      clear hcell hfro hwv
                      generalize wq.setCell ⟨ga, i, none⟩ (.int .i64 (vK + 1)) = w5 at *
                      generalize ar.set i (vK + 1) = ar5 at *
                      have hs5 := HM5.out.sz
                      have HR5 := hid HM5.out.row
                      have hlm : (sl.map (Value.int .i64)).length = sl.length := List.length_map ..
                      have HR5' : Hid (w5.ownsRow sb 3 1 u14 (sl.map (Value.int .i64)).length (sl.map (Value.int .i64))) := by
                        show World.ownsRow _ _ _ _ _ _ _
                        rw [hlm]; exact HR5.out
                      have hsb5 : sb ≤ w5.heap.size := Nat.le_of_lt HM5.out.se.lt
                      clear hlm
                      go_wp2_with (at_builtin; refine wpList_app_oneG rfl (.tmp 132) (.tmp 134) 36 rfl sb 3 Try.underlying36 infoI rfl _ (sl.map (Value.int .i64)) (.int .i64 CX) rfl HR5'.out rfl rfl (by rw [List.length_map]; omega) (by rw [List.length_map]; unfold maxLen; omega) hsb5 ?_; intro v6 w6 ho6 hk6; refine Stop.mk ?_)
                      refine Stop.go ?_
                      have HM6 := hid (HM5.out.sent (vs' := v6) (sl' := sl ++ [CX]) (by rw [List.map_append]; simpa using ho6) hk6)
                      clear ho6 hk6 HR5 HR5'
                      go_wp2_with fail
                      go_meet
                      case rel => exact ⟨sl ++ [CX], ar5, by simp; omega, by simp; omega, HAL5.out, HM6.out, (fun z hz => by
                        rcases List.mem_append.1 hz with h | h
                        · exact HSL.out z h
                        · have := List.mem_singleton.1 h; omega), HAR5.out⟩
              case rest =>
                obtain ⟨sl2, ar2, hsl2, hbt2, HAL2, HM, HSL2, HAR2⟩ := hcut
                obtain ⟨va, vc, rfl, -, -⟩ := owns_row HM.out.row
                clear HM4 HT4 t2 t3 HSL HAL
                have hia : i < ar2.length := by have := HAL2.out; omega
                obtain ⟨cu3, ho3, hc3⟩ := HM.out.ar
                have hcell := ho3.cell i (.int .i64 ar2[i]) (hc3.2 i hia)
                have hbd := HAR2.out ar2[i] (List.getElem_mem hia)
                obtain ⟨A, hA⟩ : ∃ A : Nat, (A : Int) = ar2[i] := ⟨ar2[i].toNat, by omega⟩
                rw [← hA] at hcell hbd
                have hki : i < l.length + 1 := by omega
                have hA1 : A ≤ i + 1 := by omega
                have hB0 := HBB.out.1
                have hB1 := HBB.out.2
                clear ho3 hc3 hA hbd
                have hszc := HM.out.sz
                go_upto_region 26 with fail
                clear hcell
                go_loopw [12, 140] (fun s12 s140 wz => ∃ (r bt' : Nat) (U' : Int), s12 = .int .i64 bt' ∧ s140 = .int .i64 r ∧ r ≤ A ∧ bt' ≤ sl2.length ∧ Hid (r = 0 → U' = U) ∧ Hid (U' ≤ CX + (n * q).tdiv p) ∧ Hid (LM dd w wz dd hbk kb ga sb sb p q n U' sv Bc SL (Bc + r) (.slice va sl2.length vc) sl2 ar2)) (fun _ s140 _ => A - (intOf s140).toNat)
                case atStart => exact ⟨0, bt, U, rfl, rfl, Nat.zero_le _, hbt2, fun _ => rfl, by have h1 := HUU.out; show _ ≤ _; omega, by rw [show Bc + ((0 : Nat) : Int) = Bc by omega]; exact HM.out⟩
                case round =>
                  clear HM
                  obtain ⟨r, bt', U', rfl, rfl, hr, hbt', HU0, HU1, HM⟩ := hrel
                  by_cases hltr : r < A
                  · have s3 := HM.out.se.cell 4 (.int .i64 (Bc + r)) rfl
                    have f3 := HM.out.se.frozen 4
                    have HM5 : Hid (LM dd w (wr.setCell ⟨sb, 4, none⟩ (.int .i64 (Bc + r + 1))) dd hbk kb ga sb sb p q n U' sv Bc SL (Bc + ((r + 1 : Nat) : Int)) (.slice va sl2.length vc) sl2 ar2) := by
                      show LM _ _ _ _ _ _ _ _ _ _ _ _ _ _ _ _ _ _ _ _
                      rw [show Bc + ((r + 1 : Nat) : Int) = Bc + r + 1 by omega]
                      exact HM.out.beat _
                    go_upto_region 28 with fail
                    clear s3 f3 HM
                    generalize wr.setCell ⟨sb, 4, none⟩ (.int .i64 (Bc + r + 1)) = w5 at *
                    by_cases hbl : bt' < sl2.length
                    · have HRW := hid (row_of_own HM5.out.row)
                      have hbl2 : bt' < (sl2.map (Value.int .i64)).length := by rw [List.length_map]; exact hbl
                      obtain ⟨vb, vo, rfl, hcz⟩ := HRW.out.at bt' hbl2
                      rw [List.getElem_map] at hcz
                      have hzz := HSL2.out sl2[bt'] (List.getElem_mem hbl)
                      generalize sl2[bt'] = z at *
                      obtain ⟨hz0, hz1⟩ := hzz
                      have HZT : Hid (RightT z) := ⟨hz0, by omega⟩
                      go_wp2_with fail
                      refine (holder_renewed hbk p q U' z n w5 HM5.out.ho).mono ?_
                      rintro e w6 ⟨rfl, hh6, hk6⟩
                      have hre := (renew_ok (U := U') HRD.out HRL.out HZT.out).2
                      have HM6 := hid (HM5.out.renew hh6 hk6)
                      have HU6 : Hid (renewed p q U' z n ≤ CX + (n * q).tdiv p) := by
                        show _ ≤ _
                        rw [hre]; have := HU1.out; omega
                      generalize renewed p q U' z n = U6 at *
                      clear hh6 hk6 hre hcz HRW HM5
                      go_wp2_with fail
                      go_roundw
                      case rel => exact ⟨r + 1, bt' + 1, U6, by go_num, by go_num, by omega, by omega, fun h => absurd h (by omega), HU6.out, HM6.out⟩
                      case measure => simp [intOf]; omega
                    · go_wp2_with fail
                      go_roundw
                      case rel => exact ⟨r + 1, bt', U', rfl, by go_num, by omega, by omega, fun h => absurd h (by omega), HU1.out, HM5.out⟩
                      case measure => simp [intOf]; omega
                  · have hra : r = A := by omega
                    subst hra
                    clear hltr hr
                    have HYT : Hid (RightT SY) := ⟨g3, by omega⟩
                    have HXT : Hid (RightT CX) := ⟨g1, by omega⟩
                    have HFA : Hid (r = 0 → n ≤ SY - SL → U' ≤ CX) := fun h0 hdue => by
                      rw [HU0.out h0]; exact due_invalid HRD.out HRL.out HDR.out HUU.out hdue
                    have hsl0 := HS0.out
                    have hszr := HM.out.sz
                    go_upto_region 32 with fail
                    go_cut [174] from 160 to 174 (fun s wx => s = .bool false ∧ Hid (Below wr.heap.size wr wx))
                    case first =>
                      obtain ⟨g, cg, hk, ho⟩ := HM.out.ke
                      go_wp2_with fail
                      refine (due_one kb g cg n Bc SL sv SY wr hk (row_of_own ho) HYT.out hsl0 g6).mono ?_
                      rintro e w6 ⟨hb, va6, vc6, rfl⟩
                      have HB6 := hid hb
                      have HH6 : Hid (HAt w6 hbk p q U') := ObjAt.below HM.out.ho hb
                      have HS6 := hid (HM.out.se.below hb)
                      clear hb hk ho
                      by_cases hdue : n ≤ SY - SL
                      · have hd1 : dueN n (SY - SL) = 1 := if_pos hdue
                        rw [hd1]
                        have HDUE := hid hdue
                        clear hd1 hdue
                        go_wp2_with fail
                        refine (holder_valid hbk p q U' CX w6 HH6.out).mono ?_
                        rintro e w7 ⟨rfl, rfl⟩
                        rw [decide_eq_true HXT.out]
                        by_cases hv : CX < U'
                        · have hr0 : r ≠ 0 := fun h0 => by have := HFA.out h0 HDUE.out; omega
                          have hbz : (Bc + (r : Int) == 0) = false := beq_eq_false_iff_ne.2 (by omega)
                          rw [decide_eq_true hv]
                          have s3 := HS6.out.cell 4 (.int .i64 (Bc + r)) rfl
                          clear hr0 hv
                          go_wp2_with fail
                          go_meet
                          case rel => exact ⟨rfl, HB6.out⟩
                        · rw [decide_eq_false hv]
                          clear hv
                          go_wp2_with fail
                          go_meet
                          case rel => exact ⟨rfl, HB6.out⟩
                      · have hd1 : dueN n (SY - SL) = 0 := if_neg hdue
                        rw [hd1]
                        clear hd1 hdue
                        go_wp2_with fail
                        go_meet
                        case rel => exact ⟨rfl, HB6.out⟩
                    case rest =>
                      obtain ⟨rfl, HBc⟩ := hcut
                      have HM7 := hid (HM.out.below HBc.out)
                      clear HM HBc
                      obtain ⟨g, cg, hk, ho⟩ := HM7.out.ke
                      have HGK : Hid (g ≠ kb) := by
                        obtain ⟨cur, hc⟩ := own_typed ho (g := g) rfl
                        exact hc.ne_obj hk (by decide)
                      have hkl := hk.lt
                      have x0 := HM7.out.se.cell 0 (.string ⟨#[97]⟩) rfl
                      have x1 := HM7.out.se.cell 1 (.int .i64 1) rfl
                      have x2 := HM7.out.se.cell 2 (.int .i64 0) rfl
                      have x3 := HM7.out.se.cell 3 (.int .i64 n) rfl
                      have x4 := HM7.out.se.cell 4 (.int .i64 (Bc + r)) rfl
                      have x5 := HM7.out.se.cell 5 (.int .i64 0) rfl
                      have x6 := HM7.out.se.cell 6 (.slice none 0 0) rfl
                      have hb8 := below_new (w := wc) (.cells (sArr n (Bc + r) (.slice none 0 0)) 51)
                      have HRT := hid (RowAt.new wc (sArr n (Bc + r) (.slice none 0 0)) 51 (0, 0))
                      have HM8 := hid (HM7.out.below hb8)
                      have HK8 := hid (hk.below hb8)
                      have HO8 := hid (owns_below ho hb8)
                      clear hk ho hb8
                      go_wp2_with fail
                      refine (note_any kb 1 cg (some ⟨g, 0, none⟩) n Bc (Bc + r) SL sv SY _ _ _ HK8.out (Nat.le_refl _) (fun _ => row_of_own HO8.out) (fun _ e => by cases e; exact HGK.out) HRT.out (fun ad e => by cases e; show wc.heap.size ≠ kb; omega) HYT.out hnow).mono ?_
                      rintro e w9 hp
                      have he9 := hp.1
                      have HM9 := hid (HM8.out.note hp)
                      subst he9
                      obtain ⟨σ, hσ⟩ : ∃ σ : Int, σ = sinceN 1 Bc (Bc + r) SL SY := ⟨_, rfl⟩
                      rw [← hσ] at HM9
                      have HSI := hid hσ
                      clear hσ hp HM8 HK8 HO8 HRT x0 x1 x2 x3 x4 x5 x6 HM7
                      have hs0 : Hid (r = 0 → σ = SL) := fun h0 => by
                        rw [HSI.out]; unfold sinceN; rw [if_pos ⟨rfl, by omega⟩]
                      have hs1 : Hid (r ≠ 0 → σ = SY) := fun h0 => by
                        rw [HSI.out]; unfold sinceN; rw [if_neg (fun h => h0 (by have := h.2; omega))]
                      have hσ0 : 0 ≤ σ := by
                        by_cases h0 : r = 0
                        · rw [hs0.out h0]; exact hsl0
                        · rw [hs1.out h0]; exact g3
                      have hσ1 : σ ≤ SY := by
                        by_cases h0 : r = 0
                        · rw [hs0.out h0]; exact g6
                        · rw [hs1.out h0]; omega
                      have HFB : Hid (n ≤ SY - σ → U' ≤ CX) := fun hdue => by
                        by_cases h0 : r = 0
                        · rw [hs0.out h0] at hdue; exact HFA.out h0 hdue
                        · rw [hs1.out h0] at hdue; omega
                      clear HSI
                      go_upto_region 36 with fail
                      go_cut [190] from 181 to 190 (fun s wx => s = .bool false ∧ Hid (Below w9.heap.size w9 wx))
                      case first =>
                        obtain ⟨g, cg, hk, ho⟩ := HM9.out.ke
                        go_wp2_with fail
                        refine (due_one kb g cg n (Bc + r) σ SY SY w9 hk (row_of_own ho) HYT.out hσ0 hσ1).mono ?_
                        rintro e w6 ⟨hb, va6, vc6, rfl⟩
                        have HB6 := hid hb
                        have HH6 : Hid (HAt w6 hbk p q U') := ObjAt.below HM9.out.ho hb
                        clear hb hk ho
                        by_cases hdue : n ≤ SY - σ
                        · have hd1 : dueN n (SY - σ) = 1 := if_pos hdue
                          rw [hd1]
                          have hv : ¬ CX < U' := by have := HFB.out hdue; omega
                          clear hd1 hdue
                          go_wp2_with fail
                          refine (holder_valid hbk p q U' CX w6 HH6.out).mono ?_
                          rintro e w7 ⟨rfl, rfl⟩
                          rw [decide_eq_true HXT.out, decide_eq_false (show ¬ CX < U' by omega)]
                          clear hv
                          go_wp2_with fail
                          go_meet
                          case rel => exact ⟨rfl, HB6.out⟩
                        · have hd1 : dueN n (SY - σ) = 0 := if_neg hdue
                          rw [hd1]
                          clear hd1 hdue
                          go_wp2_with fail
                          go_meet
                          case rel => exact ⟨rfl, HB6.out⟩
                      case rest =>
                        obtain ⟨rfl, HBc⟩ := hcut
                        have HMF := hid (HM9.out.below HBc.out)
                        have HAL2' := HAL2.out
                        have HLP : Hid (∃ CL' : Int, LP p q n (i + 1) CX SY CL' σ U' (Bc + r) sl2 ar2) := by
                          by_cases h0 : r = 0
                          · have e1 := hs0.out h0
                            have e2 := HU0.out h0
                            rw [e1, e2]
                            exact ⟨CL, g1, g2, g3, g4, g5, hsl0, g6, HDR.out, HUU.out, HSL2.out, HAR2.out, by omega, by omega⟩
                          · have e1 := hs1.out h0
                            rw [e1]
                            exact ⟨CX, g1, g2, g3, g4, Int.le_refl _, g3, Int.le_refl _, by simp, HU1.out, HSL2.out, HAR2.out, by omega, by omega⟩
                        obtain ⟨CL', hLP⟩ := HLP.out
                        have HLQ := hid hLP
                        clear HM9 HBc HLP hLP
                        have HALX := hid HAL2'
                        clear HAL2'
                        go_wp2_with fail
                        go_roundw
                        case rel => exact ⟨i + 1, CX, SY, bt', _, sl2, ar2, CL', σ, U', Bc + r, rfl, rfl, rfl, rfl, by go_num, by omega, HALX.out, hsl2, hbt', HMF, HLQ⟩
                        case measure => simp [intOf]; omega
            · have HBE := hid HM3.out.bel
              have HNO := hid hok
              by_cases hwi : WithinD p q x y
              · rw [decide_eq_true hwi]
                have HP' := hid hwi
                have hor : 1048576 < x ∨ 1048576 < y := by
                  by_cases h1 : x ≤ 1048576
                  · by_cases h2 : y ≤ 1048576
                    · exact absurd ⟨hwi, h1, h2⟩ hok
                    · right; omega
                  · left; omega
                clear hwi hok
                by_cases h1 : 1048576 < x
                · go_wp2_with fail
                  refine (awake18 _).mono ?_
                  rintro e w5 ⟨rfl, hb⟩
                  have HBF := hid (HBE.out.trans (hb.mono hsz3))
                  clear hb
                  go_wp2_with fail
                  go_ret
                  exact ⟨rfl, by rw [HDD.out]; exact HBF.out⟩
                · have h2 : 1048576 < y := by omega
                  go_wp2_with fail
                  refine (awake18 _).mono ?_
                  rintro e w5 ⟨rfl, hb⟩
                  have HBF := hid (HBE.out.trans (hb.mono hsz3))
                  clear hb
                  go_wp2_with fail
                  go_ret
                  exact ⟨rfl, by rw [HDD.out]; exact HBF.out⟩
              · rw [decide_eq_false hwi]
                have HP' := hid hwi
                clear hwi hok
                go_wp2_with fail
                refine (awake18 _).mono ?_
                rintro e w5 ⟨rfl, hb⟩
                have HBF := hid (HBE.out.trans (hb.mono hsz3))
                clear hb
                go_wp2_with fail
                go_ret
                exact ⟨rfl, by rw [HDD.out]; exact HBF.out⟩
          · go_wp2_with fail
            refine (awake18 _).mono ?_
            rintro e w5 ⟨rfl, hb⟩
            have HBE := hid (HM.out.bel.trans (hb.mono hsz))
            clear hb
            go_wp2_with fail
            go_ret
            exact ⟨rfl, by rw [HDD.out]; exact HBE.out⟩
    · have HNL := hid hn
      have hor : n < 1 ∨ 1048576 < n := by
        by_cases h1 : n < 1
        · left; exact h1
        · right
          by_cases h2 : 1048576 < n
          · exact h2
          · exact absurd ⟨by omega, by omega⟩ hn
      clear hn
      by_cases h1 : n < 1
      · go_wp2_with fail
        refine (awake18 _).mono ?_
        rintro e w5 ⟨rfl, hb⟩
        have HBE := hid (HB3.out.trans (hb.mono hs3))
        clear hb
        go_wp2_with fail
        go_ret
        exact ⟨rfl, by rw [HDD.out]; exact HBE.out⟩
      · have h2 : 1048576 < n := by omega
        clear hor
        go_wp2_with fail
        refine (awake18 _).mono ?_
        rintro e w5 ⟨rfl, hb⟩
        have HBE := hid (HB3.out.trans (hb.mono hs3))
        clear hb
        go_wp2_with fail
        go_ret
        exact ⟨rfl, by rw [HDD.out]; exact HBE.out⟩
  · have hex := hn hr
    subst hex
    have HNR := hid hr
    clear hy hn hb hr HDR HB1 d0 d1
    go_wp2_with fail
    refine (new_keeper w2).mono ?_
    rintro e w3 ⟨kb, rfl, hk, hb, hkb⟩
    have HDR3 := hid (HDR2.out.below hb)
    have HB3 := hid (HB2.out.trans (hb.mono hs2))
    have hs3 := Nat.le_trans hs2 hb.size
    have d0 := HDR3.out.cell 0 (.int .i64 p) rfl
    have d1 := HDR3.out.cell 1 (.int .i64 q) rfl
    clear hk hb HDR2 HB2
    go_wp2_with fail
    refine (ref_right p q w3).mono ?_
    rintro e w4 ⟨rfl, rfl⟩
    rw [decide_eq_false HNR.out]
    go_wp2_with fail
    refine (awake18 _).mono ?_
    rintro e w5 ⟨rfl, hb⟩
    have HBE := hid (HB3.out.trans (hb.mono hs3))
    clear hb
    go_wp2_with fail
    go_ret
    exact ⟨rfl, by rw [HDD.out]; exact HBE.out⟩
end Go.Proofs.Ytebmhjphnlgojaa
