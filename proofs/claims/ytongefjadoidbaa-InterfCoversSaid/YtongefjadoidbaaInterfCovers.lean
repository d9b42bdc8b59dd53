/-
  InterfCovers: each instance that was added with an interfering command is covered by the dependencies, and has a lesser sequence number; what was added with others changes nothing: for every argument.
-/
import Derived.Test.YtongefjadoidbaaIntArg
namespace Go.Proofs.Ytongefjadoidbaa.interfCovers
open Go.RowKit
set_option maxRecDepth 20000
set_option linter.unusedVariables false

theorem inter_filter (n : Nat) (k : Int) (h : List UInt8) (its : List It) : interL k h (goodL n (its.filter fun i => interB k h i.kind i.home)) = interL k h (goodL n its) := by
  unfold interL goodL
  rw [List.filter_filter, List.filter_filter, List.filter_filter]
  refine List.filter_congr fun i _ => ?_
  cases interB k h i.kind i.home <;> simp
theorem inter_kind {k1 k2 : Int} {h1 h2 : List UInt8} (h : interB k1 h1 k2 h2 = true) : (1 ≤ k1 ∧ k1 ≤ 2) ∧ 1 ≤ k2 ∧ k2 ≤ 2 := by
  unfold interB at h
  simp only [Bool.and_eq_true, decide_eq_true_iff] at h
  exact ⟨h.1, h.2.1⟩
theorem goodL_ok {n : Nat} {its : List It} : ∀ i ∈ goodL n its, GoodIt n i := fun i hi => of_decide_eq_true (List.mem_filter.1 hi).2
theorem inter_good {n : Nat} {k : Int} {h : List UInt8} {S : List It} (hg : ∀ i ∈ S, GoodIt n i) : ∀ i ∈ interL k h S, RangeOk n i := fun i hi => (hg i (List.mem_filter.1 hi).1).2
theorem seq_pos (L : List It) : 1 ≤ seqMax L + 1 := by have := seqMax_nonneg L; omega

set_option maxHeartbeats 4000000 in
theorem walk (nr : Int) (a : Option Addr) (c : Nat) (its : List It) (ck : Int) (ch : List UInt8) (cd : Value) (w : World) (hr : RowAt w a (its.flatMap itCells)) (hd : ∀ i ∈ its, ∃ d l c, i.data = .slice d l c) (hcd : ∃ d l c, cd = .slice d l c) (hm : its.length * 72 ≤ 140737488351232) :
    Calls Try.prog 3 #[.int .i64 nr, .slice a its.length c, .agg #[.int .i64 ck, .string ⟨ch.toArray⟩, cd]] w fun e w' => e = .returned (.bool true) ∧ Below w.heap.size w w' := by
  have HR := hid hr
  have HD := hid hd
  obtain ⟨q1, q2, q3, rfl⟩ := hcd
  clear hr hd
  go_enter Try.func3, Try.ntmps3
  go_upto_region 1 with fail
  have hb1 := below_new (w := w) (.cells #[.int .i64 ck, .string ⟨ch.toArray⟩, .slice q1 q2 q3] 25)
  have HK := hid (ObjAt.new w 25 #[.int .i64 ck, .string ⟨ch.toArray⟩, .slice q1 q2 q3])
  have HB := hid hb1
  have hlw : Hid (w.heap.size < (w.alloc (.cells #[.int .i64 ck, .string ⟨ch.toArray⟩, .slice q1 q2 q3] 25)).heap.size) := HK.out.lt
  replace HR := hid (HR.out.below hb1)
  generalize w.alloc (.cells #[.int .i64 ck, .string ⟨ch.toArray⟩, .slice q1 q2 q3] 25) = W at *
  generalize hcb : w.heap.size = cb at *
  have HCB := hid hcb
  clear hcb hb1
  by_cases hn : nr < 1 ∨ 7 < nr
  · go_wp2_with fail
    refine (build_no nr _ _ hn).mono ?_
    rintro e w1 ⟨rfl, rfl⟩
    by_cases hn1 : nr < 1
    · clear hn
      go_wp2_with fail
      refine (awake10 _).mono ?_
      rintro e w5 ⟨rfl, hb⟩
      replace HB := hid (HB.out.trans (hb.mono (Nat.le_of_lt hlw.out)))
      clear hb
      go_wp2_with fail
      go_ret
      exact ⟨rfl, by rw [HCB.out]; exact HB.out⟩
    · have hn2 : 7 < nr := by omega
      clear hn
      go_wp2_with fail
      refine (awake10 _).mono ?_
      rintro e w5 ⟨rfl, hb⟩
      replace HB := hid (HB.out.trans (hb.mono (Nat.le_of_lt hlw.out)))
      clear hb
      go_wp2_with fail
      go_ret
      exact ⟨rfl, by rw [HCB.out]; exact HB.out⟩
  · obtain ⟨n, rfl⟩ : ∃ n : Nat, nr = n := ⟨nr.toNat, by omega⟩
    have h1 : 1 ≤ n := by omega
    have h7 : n ≤ 7 := by omega
    clear hn
    go_wp2_with fail
    refine (build_yes n a c its W h1 h7 HR.out HD.out (by omega)).mono ?_
    rintro e w1 ⟨x, dp, v, rfl, hx, hdp, -, -, -, hb⟩
    have HX := hid hx
    replace HK := hid (HK.out.below hb)
    replace HR := hid (HR.out.below hb)
    replace HB := hid (HB.out.trans (hb.mono (Nat.le_of_lt hlw.out)))
    have hlw1 : Hid (cb < w1.heap.size) := Nat.lt_of_lt_of_le hlw.out hb.size
    clear hx hdp hb hlw
    have k0 := HK.out.cell 0 (.int .i64 ck) rfl
    have k1 := HK.out.cell 1 (.string ⟨ch.toArray⟩) rfl
    have k2 := HK.out.cell 2 (.slice q1 q2 q3) rfl
    go_wp2_with fail
    refine (idx_attr x n (goodL n its) ck ch (.slice q1 q2 q3) w1 HX.out).mono ?_
    rintro e w2 ⟨hb, hcase⟩
    replace HK := hid (HK.out.below hb)
    replace HR := hid (HR.out.below hb)
    replace HB := hid (HB.out.trans (hb.mono (Nat.le_of_lt hlw1.out)))
    have hlw2 : Hid (cb < w2.heap.size) := Nat.lt_of_lt_of_le hlw1.out hb.size
    clear hb hlw1 HX k0 k1 k2
    have k0 := HK.out.cell 0 (.int .i64 ck) rfl
    have k1 := HK.out.cell 1 (.string ⟨ch.toArray⟩) rfl
    have k2 := HK.out.cell 2 (.slice q1 q2 q3) rfl
    rcases hcase with ⟨hko, rfl⟩ | ⟨hko, v, rfl, hv⟩
    · by_cases hk1 : ck < 0
      · clear hko
        go_wp2_with fail
        refine (awake10 _).mono ?_
        rintro e w5 ⟨rfl, hb⟩
        replace HB := hid (HB.out.trans (hb.mono (Nat.le_of_lt hlw2.out)))
        clear hb
        go_wp2_with fail
        go_ret
        exact ⟨rfl, by rw [HCB.out]; exact HB.out⟩
      · have hk2 : 2 < ck := by unfold KindOk at hko; omega
        clear hko
        go_wp2_with fail
        refine (awake10 _).mono ?_
        rintro e w5 ⟨rfl, hb⟩
        replace HB := hid (HB.out.trans (hb.mono (Nat.le_of_lt hlw2.out)))
        clear hb
        go_wp2_with fail
        go_ret
        exact ⟨rfl, by rw [HCB.out]; exact HB.out⟩
    · have HV := hid hv.ints
      have HVO := hid (show VecOk (depsL n (interL ck ch (goodL n its))) from depsL_ok h1 h7 (inter_good goodL_ok))
      have HLE := hid (depsL_len n (interL ck ch (goodL n its)))
      have hsp := seq_pos (interL ck ch (goodL n its))
      have hsb := seqMax_bound (n := n) (inter_good (k := ck) (h := ch) (goodL_ok (n := n) (its := its)))
      clear hv
      have HNR := hid (HR.out)
      obtain ⟨av, cv, rfl, hrv, hzv, hlv, hmv⟩ := HV.out
      have HRV := hid hrv
      rw [HLE.out]
      have HKO := hid hko
      clear hrv k0 k1 k2 hko
      generalize hIL : interL ck ch (goodL n its) = IL at *
      have HIL := hid hIL
      clear hIL
      go_wp2_with fail
      generalize hb2 : w2.heap.size = b2 at *
      have HB2 := hid hb2
      clear hb2
      go_loopw [13, 62] (fun dv s wr => ∃ j : Nat, s = .int .i64 j ∧ j ≤ its.length ∧ Hid (wr.ownsRow b2 39 6 dv ((its.take j).filter fun i => interB ck ch i.kind i.home).length (((its.take j).filter fun i => interB ck ch i.kind i.home).flatMap itCells)) ∧ Hid (Below b2 w2 wr)) (fun _ s _ => its.length - (intOf s).toNat)
      case atStart => exact ⟨0, rfl, Nat.zero_le _, by simp; exact World.ownsRow_nil _ _ _ _, Below.refl _ _⟩
      case round =>
        obtain ⟨j, rfl, hj, HO, HC⟩ := hrel
        have hbw : b2 ≤ wr.heap.size := by have := HC.out.size; have := HB2.out; omega
        have hblw : Below w2.heap.size w2 wr := by rw [HB2.out]; exact HC.out
        by_cases hlt : j < its.length
        · have HKw := hid (HK.out.below hblw)
          have HRVw := hid (HRV.out.below hblw)
          obtain ⟨b, o, rfl, r0, r1, r2, r3, r4, r5⟩ := row_it (HR.out.below hblw) hlt
          have HDj := hid (HD.out its[j] (List.getElem_mem hlt))
          have hgj : GoodIt n its[j] → interB ck ch its[j].kind its[j].home = true → its[j] ∈ IL := fun h1 h2 => by
            rw [← HIL.out]
            unfold interL goodL
            exact List.mem_filter.2 ⟨List.mem_filter.2 ⟨List.getElem_mem hlt, decide_eq_true h1⟩, h2⟩
          have HGJ := hid hgj
          have htk := List.take_succ_eq_append_getElem hlt
          have HTK : Hid ((its.take (j + 1)).filter (fun i => interB ck ch i.kind i.home) = (its.take j).filter (fun i => interB ck ch i.kind i.home) ++ (if interB ck ch its[j].kind its[j].home = true then [its[j]] else [])) := by
            show _ = _
            rw [htk, List.filter_append]
            by_cases hB : interB ck ch its[j].kind its[j].home = true
            · rw [if_pos hB]; simp [hB]
            · rw [if_neg hB]; simp [hB]
          have hfl : ((its.take j).filter fun i => interB ck ch i.kind i.home).length ≤ j := Nat.le_trans (List.length_filter_le _ _) (by rw [List.length_take]; omega)
          clear hgj htk hblw
          generalize (its.take j).filter (fun i => interB ck ch i.kind i.home) = D at *
          generalize its[j] = it at *
          obtain ⟨ki, ho, da, re, nu, se⟩ := it
          obtain ⟨d1, d2, d3, hde⟩ := HDj.out
          dsimp only at hde r0 r1 r2 r3 r4 r5
          subst hde
          clear HDj
          have k0 := HKw.out.cell 0 (.int .i64 ck) rfl
          have k1 := HKw.out.cell 1 (.string ⟨ch.toArray⟩) rfl
          have k2 := HKw.out.cell 2 (.slice q1 q2 q3) rfl
          go_upto_region 11 with fail
          have hb4 := below_new (w := wr) (.cells #[.int .i64 ki, .string ⟨ho.toArray⟩, .slice d1 d2 d3, .int .i64 re, .int .i64 nu, .int .i64 se] 39)
          have HI := hid (ObjAt.new wr 39 #[.int .i64 ki, .string ⟨ho.toArray⟩, .slice d1 d2 d3, .int .i64 re, .int .i64 nu, .int .i64 se])
          have HOq := hid (owns_below HO.out hb4)
          have HKq := hid (HKw.out.below hb4)
          have HRVq := hid (HRVw.out.below hb4)
          have HCq := hid (HC.out.trans (hb4.mono hbw))
          have hsq := hb4.size
          have HDK := hid (owns_new HO.out)
          generalize wr.alloc (.cells #[.int .i64 ki, .string ⟨ho.toArray⟩, .slice d1 d2 d3, .int .i64 re, .int .i64 nu, .int .i64 se] 39) = wq at *
          generalize wr.heap.size = kb at *
          clear k0 k1 k2 r0 r1 r2 r3 r4 r5 HO HC HKw HRVw hb4
          have k0 := HKq.out.cell 0 (.int .i64 ck) rfl
          have k1 := HKq.out.cell 1 (.string ⟨ch.toArray⟩) rfl
          have k2 := HKq.out.cell 2 (.slice q1 q2 q3) rfl
          have i0 := HI.out.cell 0 (.int .i64 ki) rfl
          have i1 := HI.out.cell 1 (.string ⟨ho.toArray⟩) rfl
          have i2 := HI.out.cell 2 (.slice d1 d2 d3) rfl
          go_wp2_with fail
          have hb5 := below_new (w := wq) (.cells #[.int .i64 ki, .string ⟨ho.toArray⟩, .slice d1 d2 d3] 25)
          have HG := hid (ObjAt.new wq 25 #[.int .i64 ki, .string ⟨ho.toArray⟩, .slice d1 d2 d3])
          have HO5 := hid (owns_below HOq.out hb5)
          have HK5 := hid (HKq.out.below hb5)
          have HRV5 := hid (HRVq.out.below hb5)
          have HI5 := hid (HI.out.below hb5)
          have HC5 := hid (HCq.out.trans (hb5.mono (by omega)))
          have hs5 := hb5.size
          generalize wq.alloc (.cells #[.int .i64 ki, .string ⟨ho.toArray⟩, .slice d1 d2 d3] 25) = w5 at *
          clear k0 k1 k2 i0 i1 i2 HOq HKq HRVq HI HCq hb5
          refine (int_inter1 wq.heap.size ck ki ch ho (.slice q1 q2 q3) (.slice d1 d2 d3) w5 HG.out).mono ?_
          rintro e w6 ⟨rfl, hb⟩
          replace HO5 := hid (owns_below HO5.out hb)
          replace HK5 := hid (HK5.out.below hb)
          replace HRV5 := hid (HRV5.out.below hb)
          replace HI5 := hid (HI5.out.below hb)
          replace HC5 := hid (HC5.out.trans (hb.mono (by omega)))
          have hs6 : b2 ≤ w6.heap.size := by have := hb.size; omega
          clear hb HG
          cases hB : interB ck ch ki ho with
          | false =>
            rw [hB] at HTK
            clear hB
            go_wp2_with fail
            go_roundw
            case rel => exact ⟨j + 1, by go_num, by omega, by rw [HTK.out]; simpa using HO5, HC5⟩
            case measure => simp [intOf]; omega
          | true =>
            rw [hB] at HTK
            have HBB := hid hB
            clear hB
            have i0 := HI5.out.cell 0 (.int .i64 ki) rfl
            have i1 := HI5.out.cell 1 (.string ⟨ho.toArray⟩) rfl
            have i2 := HI5.out.cell 2 (.slice d1 d2 d3) rfl
            have i3 := HI5.out.cell 3 (.int .i64 re) rfl
            have i4 := HI5.out.cell 4 (.int .i64 nu) rfl
            have i5 := HI5.out.cell 5 (.int .i64 se) rfl
            obtain ⟨z, hinf, hzs⟩ := infoItem
            have HINF := hid hinf
            have HZS := hid hzs
            clear hinf hzs
            go_wp2_with (at_builtin; refine wpList_app rfl (.tmp 72) (.tmp 74) 22 rfl b2 39 Try.underlying22 HINF.out HZS.out (by decide) _ D.length (D.flatMap itCells) rfl (HO5.out.alloc _) (some ⟨w6.heap.size, 0, none⟩) 1 1 (itCells ⟨ki, ho, .slice d1 d2 d3, re, nu, se⟩) rfl rfl (RowAt.new _ _ _ _) (by simp [itCells, Value.oneCell']) (by unfold maxLen; omega) (by omega) (by simp; omega) (by simp) ?_; intro v7 w7 ho7 hg7 _; refine Stop.mk ?_)
            have hb7 := below_new (w := w6) (.cells #[.int .i64 ki, .string ⟨ho.toArray⟩, .slice d1 d2 d3, .int .i64 re, .int .i64 nu, .int .i64 se] 39)
            have HI7 := hid ((HI5.out.below hb7).keptS (KeptS.of_grown hg7) (fun e => absurd (HDK.out _ e.symm) (Nat.lt_irrefl _)))
            have HC7 : Hid (Below b2 w2 w7) := (HC5.out.trans (hb7.mono (by omega))).trans ((Below.refl b2 _).grown hg7 (by have := hb7.size; omega) (fun k hk => by
              have := (HO5.out.lt k hk).1
              omega))
            have HO7 : Hid (w7.ownsRow b2 39 6 v7 (D ++ [It.mk ki ho (.slice d1 d2 d3) re nu se]).length ((D ++ [It.mk ki ho (.slice d1 d2 d3) re nu se]).flatMap itCells)) := by
              show w7.ownsRow _ _ _ _ _ _
              rw [List.length_append, List.flatMap_append]; simpa using ho7
            have hs7 : b2 ≤ w7.heap.size := by have := HC7.out.size; have := HB2.out; omega
            have HRV7 := hid (HRV.out.below (w' := w7) (by rw [HB2.out]; exact HC7.out))
            have HIM := hid (fun h => HGJ.out h HBB.out)
            clear ho7 hg7 hb7 HI5 HC5 HO5 HK5 HRV5 i0 i1 i2 i3 i4 i5 HINF HZS
            refine Stop.go ?_
            have i3 := HI7.out.cell 3 (.int .i64 re) rfl
            have i4 := HI7.out.cell 4 (.int .i64 nu) rfl
            have i5 := HI7.out.cell 5 (.int .i64 se) rfl
            go_upto_region 13 with fail
            go_cut [16, 62] from 62 to 124 (fun s16 s62 wx => s16 = .bool (decide (RangeOk n ⟨ki, ho, .slice d1 d2 d3, re, nu, se⟩)) ∧ s62 = .int .i64 j ∧ wx = w7)
            case first =>
              by_cases a0 : 0 ≤ re
              rotate_left
              · have HDD : Hid (decide (RangeOk n ⟨ki, ho, .slice d1 d2 d3, re, nu, se⟩) = false) := decide_eq_false (fun h => a0 h.1)
                go_wp2
                go_meet
                case rel => exact ⟨by rw [HDD.out], rfl, rfl⟩
              by_cases a1 : re < n
              rotate_left
              · have HDD : Hid (decide (RangeOk n ⟨ki, ho, .slice d1 d2 d3, re, nu, se⟩) = false) := decide_eq_false (fun h => a1 h.2.1)
                go_wp2
                go_meet
                case rel => exact ⟨by rw [HDD.out], rfl, rfl⟩
              by_cases a2 : 1 ≤ nu
              rotate_left
              · have HDD : Hid (decide (RangeOk n ⟨ki, ho, .slice d1 d2 d3, re, nu, se⟩) = false) := decide_eq_false (fun h => a2 h.2.2.1)
                go_wp2
                go_meet
                case rel => exact ⟨by rw [HDD.out], rfl, rfl⟩
              by_cases a3 : nu ≤ 4611686018427387903
              rotate_left
              · have HDD : Hid (decide (RangeOk n ⟨ki, ho, .slice d1 d2 d3, re, nu, se⟩) = false) := decide_eq_false (fun h => a3 h.2.2.2.1)
                go_wp2
                go_meet
                case rel => exact ⟨by rw [HDD.out], rfl, rfl⟩
              by_cases a4 : 0 ≤ se
              rotate_left
              · have HDD : Hid (decide (RangeOk n ⟨ki, ho, .slice d1 d2 d3, re, nu, se⟩) = false) := decide_eq_false (fun h => a4 h.2.2.2.2.1)
                go_wp2
                go_meet
                case rel => exact ⟨by rw [HDD.out], rfl, rfl⟩
              by_cases a5 : se < 4611686018427387903
              rotate_left
              · have HDD : Hid (decide (RangeOk n ⟨ki, ho, .slice d1 d2 d3, re, nu, se⟩) = false) := decide_eq_false (fun h => a5 h.2.2.2.2.2)
                go_wp2
                go_meet
                case rel => exact ⟨by rw [HDD.out], rfl, rfl⟩
              have HDD : Hid (decide (RangeOk n ⟨ki, ho, .slice d1 d2 d3, re, nu, se⟩) = true) := decide_eq_true ⟨a0, a1, a2, a3, a4, a5⟩
              go_wp2
              go_meet
              case rel => exact ⟨by rw [HDD.out], rfl, rfl⟩
            case rest =>
            obtain ⟨rfl, rfl, rfl⟩ := hcut
            by_cases hro : RangeOk n ⟨ki, ho, .slice d1 d2 d3, re, nu, se⟩
            · rw [decide_eq_true hro]
              have hkk := (inter_kind HBB.out).2
              have hgi : GoodIt n ⟨ki, ho, .slice d1 d2 d3, re, nu, se⟩ := ⟨⟨by show 0 ≤ ki; omega, hkk.2⟩, hro⟩
              have hmem := HIM.out hgi
              clear hkk hgi
              have hsq := seqMax_mem hmem
              have hdq := depMax_mem hmem
              obtain ⟨r, rfl⟩ : ∃ r : Nat, re = r := ⟨re.toNat, by have := hro.1; dsimp only at this; omega⟩
              have hrn : r < n := by have := hro.2.1; dsimp only at this; omega
              have hn1 : 1 ≤ nu := hro.2.2.1
              have hse : se ≤ seqMax IL := hsq
              have hdl : nu ≤ depMax (r : Int) IL := hdq
              clear hro hmem hsq hdq
              go_wp2_with fail
              have hb8 := below_new (w := wc) (.cells #[.int .i64 r, .int .i64 nu] 37)
              have HG8 := hid (ObjAt.new wc 37 #[.int .i64 r, .int .i64 nu])
              have HI8 := hid (HI7.out.below hb8)
              have HRV8 := hid (HRV7.out.below hb8)
              have HO8 := hid (owns_below HO7.out hb8)
              have HC8 := hid (HC7.out.trans (hb8.mono hs7))
              have hs8 := hb8.size
              clear hb8 i3 i4 i5 HI7 HRV7 HO7 HC7
              generalize wc.alloc (.cells #[.int .i64 r, .int .i64 nu] 37) = w8 at *
              have hcv := vec_covers1 wc.heap.size r av cv (depsL n IL) nu w8 HRV8.out HVO.out HG8.out (by rw [HLE.out]; exact hrn) hn1 (by rw [depsL_get]; exact hdl)
              rw [HLE.out] at hcv
              refine hcv.mono ?_
              rintro e w9 ⟨rfl, hb⟩
              have HI9 := hid (HI8.out.below hb)
              have HO9 := hid (owns_below HO8.out hb)
              have HC9 := hid (HC8.out.trans (hb.mono (by omega)))
              have i5 := HI9.out.cell 5 (.int .i64 se) rfl
              clear hb hcv HI8 HO8 HC8 HG8 HRV8
              have hge : decide (seqMax IL + 1 ≤ se) = false := decide_eq_false (by omega)
              go_wp2_with fail
              go_roundw
              case rel => exact ⟨j + 1, by go_num, by omega, by rw [HTK.out]; exact HO9, HC9⟩
              case measure => simp [intOf]; omega
            · rw [decide_eq_false hro]
              clear hro
              go_wp2_with fail
              go_roundw
              case rel => exact ⟨j + 1, by go_num, by omega, by rw [HTK.out]; exact HO7, HC7⟩
              case measure => simp [intOf]; omega
        · have hje : j = its.length := by omega
          rw [show (its.take j) = its from by rw [hje, List.take_length]] at HO
          have hfl : (its.filter fun i => interB ck ch i.kind i.home).length ≤ its.length := List.length_filter_le _ _
          have HFD : Hid (∀ i ∈ its.filter (fun i => interB ck ch i.kind i.home), ∃ d l c, i.data = .slice d l c) := fun i hi => HD.out i (List.mem_filter.1 hi).1
          have HIF := hid (inter_filter n ck ch its)
          have HKw := hid (HK.out.below hblw)
          have HVw := hid (HV.out.below hblw)
          have HBw := hid (HB.out.trans (hblw.mono (by have := HB2.out; have := hlw2.out; omega)))
          clear hje hblw
          generalize hF : its.filter (fun i => interB ck ch i.kind i.home) = F at *
          clear hF
          obtain ⟨af, cf, rfl, hrf, -, -⟩ := owns_row HO.out
          have HRF := hid hrf
          clear hrf HO
          go_wp2_with fail
          refine (build_yes n af cf F wr h1 h7 HRF.out HFD.out (by omega)).mono ?_
          rintro e w3 ⟨y, dq, vq, rfl, hy, hdq, -, -, -, hb⟩
          have HY := hid hy
          have HK3 := hid (HKw.out.below hb)
          have HV3 := hid (HVw.out.below hb)
          have HB3 := hid (HBw.out.trans (hb.mono (by have := hlw2.out; omega)))
          have hs3 : b2 ≤ w3.heap.size := Nat.le_trans hbw hb.size
          clear hy hdq hb HKw HVw HBw HRF
          have k0 := HK3.out.cell 0 (.int .i64 ck) rfl
          have k1 := HK3.out.cell 1 (.string ⟨ch.toArray⟩) rfl
          have k2 := HK3.out.cell 2 (.slice q1 q2 q3) rfl
          go_wp2_with fail
          refine (idx_attr y n (goodL n F) ck ch (.slice q1 q2 q3) w3 HY.out).mono ?_
          rintro e w4 ⟨hb, hcase⟩
          rcases hcase with ⟨hkb, -⟩ | ⟨-, v4, rfl, hv4⟩
          · exact absurd HKO.out hkb
          · rw [HIF.out, HIL.out] at hv4 ⊢
            have HV4 := hid hv4.ints
            have HV5 := hid (HV3.out.below hb)
            have HB4 := hid (HB3.out.trans (hb.mono (by have := hlw2.out; omega)))
            have hs4 : b2 ≤ w4.heap.size := Nat.le_trans hs3 hb.size
            have hee : (seqMax IL + 1 == seqMax IL + 1) = true := beq_self_eq_true _
            clear hv4 hb k0 k1 k2 HV3 HB3
            rw [HLE.out] at HV5
            go_wp2_with fail
            have hsy := same_yes (.slice av n cv) v4 (depsL n IL) w4 (by have h := HV5.out; exact h) HV4.out (by rw [HLE.out]; omega)
            refine hsy.mono ?_
            rintro e w5 ⟨rfl, hb⟩
            have HB5 := hid (HB4.out.trans (hb.mono (by have := hlw2.out; omega)))
            have hs5 : b2 ≤ w5.heap.size := Nat.le_trans hs4 hb.size
            clear hb hsy HB4
            go_wp2_with fail
            refine (awake10 _).mono ?_
            rintro e w6 ⟨rfl, hb⟩
            have HB6 := hid (HB5.out.trans (hb.mono (by have := hlw2.out; omega)))
            clear hb HB5
            go_wp2_with fail
            go_ret
            exact ⟨rfl, by rw [HCB.out]; exact HB6.out⟩
def T : Ty := .pair (.int .i64) (.pair (.slice TItem) (.pair TCmd .unit))
theorem walk' (W : World) (vs : List Value) (el : T.El) (hr : ArgsRd W T vs el) (hf : Fit T el) : Calls Try.prog 3 vs.toArray W fun e w' => e = .returned (.bool true) ∧ Below W.heap.size W w' := by
  obtain ⟨v1, r1, cs1, rfl, hv1, hx1, v2, r2, cs2, rfl, hv2, hx2, v3, r3, cs3, rfl, hv3, hx3, rfl⟩ := hr
  obtain ⟨rfl, -⟩ := hx1
  obtain rfl : v1 = .int .i64 el.fst := by simpa [ValOf, eq_comm] using hv1
  obtain rfl : cs2 = [v2] := hv2
  obtain ⟨a, c, its, rfl, hl, hr, hd, -, -, -⟩ := items_of hx2
  obtain ⟨c7, c8, rfl, -, ⟨rfl, -⟩, c9, c10, rfl, -, ⟨rfl, -⟩, c11, c12, rfl, -, ⟨a3, cp3, us, rfl, -⟩, rfl⟩ := hx3
  have hv' : v3 = .agg _ := hv3
  rw [hv']
  have f1 : List.length el.snd.fst * 72 ≤ 140737488351232 := hf.2.1.1
  exact walk el.fst a c its _ _ _ W hr hd ⟨_, _, _, rfl⟩ (by omega)

theorem own : ownKnob Try.prog.godebug = none := by kernel_rfl
theorem laidOut : laidOutB Try.prog = true := by kernel_rfl

set_option maxRecDepth 100000 in
theorem lifted (os : Os) (started : os.Started) (H : Type) (enc : TypeId × Value → H) :
    ReturnsInHanded {} Try.checked os 3 .any (Rows.interfCoversSpec.pre6 enc Try.prog Try.f3 Rows.interfCoversRow.domain false) (Rows.interfCoversSpec.post enc Try.prog Try.f3 false true false false) := by
  refine returnsInHanded_of_change_sized (C := Try.checked) own started (by kernel_rfl) Try.func3
    (ChangeSpec.witness6 (enc := enc) (C := Try.checked) false ⟨#[], #[.int .i64 0, .slice none 0 0, .agg #[.int .i64 0, .string ByteArray.empty, .slice none 0 0]], []⟩ 16 (by kernel_rfl) (by kernel_rfl) (by kernel_rfl) (by kernel_rfl)) ?_
  intro W base args ds gs before hval hW _ hsz _
  exact law_said T (by kernel_rfl) laidOut (by kernel_rfl) rfl rfl Try.underlying4 (fun ds h => by
    match ds, h with
    | [d0, d1, d2], _ => rfl) walk' W base args ds gs before hval hW hsz

theorem over : Rows.interfCoversRow.holds Try.pinned (OpenSpec.ofChange Rows.interfCoversSpec) :=
  OpenClaim.holds_of_wide 3 Try.f3 rfl rfl rfl rfl rfl rfl rfl ⟨rfl, rfl, rfl, rfl, rfl⟩ rfl rfl rfl rfl rfl (by kernel_rfl) Try.func3 (by kernel_rfl)
    (of_decide_eq_true (by kernel_rfl)) (by unfold Func.isWrapper; first | (rw [if_pos (by decide +kernel)]; kernel_rfl) | (rw [if_neg (by decide +kernel)]; exact ⟨rfl, rfl⟩))
    (fun os started H enc _ => lifted os started H enc)

theorem proved : Rows.InterfCoversSaid := over
#print axioms proved
end Go.Proofs.Ytongefjadoidbaa.interfCovers
