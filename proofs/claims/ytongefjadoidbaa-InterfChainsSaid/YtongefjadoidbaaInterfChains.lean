/-
  InterfChains: commands that are added one after the other, each with what the index told of it: for every argument.
-/
import Derived.Test.YtongefjadoidbaaInt16
namespace Go.Proofs.Ytongefjadoidbaa.interfChains
open Go.RowKit
set_option maxRecDepth 20000
set_option linter.unusedVariables false

theorem inter_kind' {k1 k2 : Int} {h1 h2 : List UInt8} (h : interB k1 h1 k2 h2 = true) : (1 ≤ k1 ∧ k1 ≤ 2) ∧ 1 ≤ k2 ∧ k2 ≤ 2 := by
  unfold interB at h
  simp only [Bool.and_eq_true, decide_eq_true_iff] at h
  exact ⟨h.1, h.2.1⟩
theorem mem_inter {k : Int} {h : List UInt8} {T : List It} {i : It} (hi : i ∈ T) (hB : interB k h i.kind i.home = true) : i ∈ interL k h T := by
  unfold interL; exact List.mem_filter.2 ⟨hi, hB⟩

set_option maxHeartbeats 20000000 in
theorem walk (nr : Int) (a : Option Addr) (c : Nat) (cs : List Cm) (w : World) (hr : RowAt w a (cs.flatMap cmCells)) (hd : ∀ i ∈ cs, ∃ d l c, i.data = .slice d l c) :
    Calls Try.prog 4 #[.int .i64 nr, .slice a cs.length c] w fun e w' => e = .returned (.bool true) ∧ Below w.heap.size w w' := by
  have HR := hid hr
  have HD := hid hd
  have HB0 := hid (Below.refl w.heap.size w)
  clear hr hd
  go_enter Try.func4, Try.ntmps4
  by_cases hn : nr < 1 ∨ 7 < nr
  · by_cases hn1 : nr < 1
    · have HN := hid hn
      clear hn
      go_wp2_with fail
      refine (interf_newN nr w HN.out).mono ?_
      rintro e w1 ⟨rfl, rfl⟩
      go_wp2_with fail
      refine (awake10 _).mono ?_
      rintro e w5 ⟨rfl, hb⟩
      have HBZ := hid (HB0.out.trans (hb.mono HB0.out.size))
      clear hb
      go_wp2_with fail
      go_ret
      exact ⟨rfl, HBZ.out⟩
    · have hn2 : 7 < nr := by omega
      have HN := hid hn
      clear hn
      go_wp2_with fail
      refine (interf_newN nr w HN.out).mono ?_
      rintro e w1 ⟨rfl, rfl⟩
      go_wp2_with fail
      refine (awake10 _).mono ?_
      rintro e w5 ⟨rfl, hb⟩
      have HBZ := hid (HB0.out.trans (hb.mono HB0.out.size))
      clear hb
      go_wp2_with fail
      go_ret
      exact ⟨rfl, HBZ.out⟩
  · obtain ⟨n, rfl⟩ : ∃ n : Nat, nr = n := ⟨nr.toNat, by omega⟩
    have h1 : 1 ≤ n := by omega
    have h7 : n ≤ 7 := by omega
    clear hn
    go_wp2_with fail
    refine (interf_new n w h1 h7).mono ?_
    rintro e w1 ⟨x, rfl, hx, hh, hb⟩
    have HX := hid hx
    have HH : Hid (∀ k, x.Has k → w.heap.size ≤ k) := hh
    have HB := hid hb
    have hlw : w.heap.size ≤ w1.heap.size := hb.size
    clear hx hh hb HB0
    by_cases hc : 200 < cs.length
    · go_wp2_with fail
      refine (awake10 _).mono ?_
      rintro e w5 ⟨rfl, hb⟩
      have HBZ := hid (HB.out.trans (hb.mono HB.out.size))
      clear hb
      go_wp2_with fail
      go_ret
      exact ⟨rfl, HBZ.out⟩
    · have hc2 : cs.length ≤ 200 := by omega
      clear hc
      obtain ⟨i0, hi0, hz0, hs0, hy0⟩ := info_parts infoInt
      go_wp2_with (at_make; refine wpList_make_full _ rfl _ _ 31 rfl w1.heap.size 3 i0 (.int .i64 0) 1 Try.underlying31 hi0 hz0 hs0 _ _ _ _ n rfl rfl rfl rfl (by rw [hy0]; omega) (by unfold maxLen; omega) (Nat.le_refl _) ?_; intro w2 ho hgr; refine Stop.mk ?_)
      obtain ⟨cu, hO, hC⟩ := made_zero w1.heap.size ho
      have HO := hid hO
      have HC := hid hC
      have HB1 := hid ((Below.refl w1.heap.size w1).grown hgr (Nat.le_refl _) (fun k hk => by cases hk))
      have HXL : Hid (∀ k, x.Has k → k < w1.heap.size) := fun k hk => HX.out.g.lt hk
      clear ho hgr hO hC hi0 hz0 hs0 hy0
      refine Stop.go ?_
      have hs2 : w1.heap.size ≤ w2.heap.size := HB1.out.size
      generalize hnx : w1.heap.size = nx at *
      have HCH : Hid (Ch w w2 w.heap.size n x.ib nx x [] (List.replicate n 0) 0 (.slice none 0 0) (.slice none 0 0) (.slice none 0 0)) :=
        { ib := rfl, idx := HX.out.below (by rw [hnx]; exact HB1.out), len := Nat.le_refl _, seqs := by simp, dat := by simp
          nxt := ⟨cu, HO.out, HC.out⟩, cl := by simp, cb := fun c hc => by have := List.eq_of_mem_replicate hc; omega
          nxf := fun h => absurd (HXL.out _ h) (Nat.lt_irrefl _)
          oi := World.ownsRow_nil _ _ _ _, os := World.ownsRow_nil _ _ _ _, oa := World.ownsRow_nil _ _ _ _
          fi := by simp [Value.ownBlock], fs := by simp [Value.ownBlock], fa := by simp [Value.ownBlock], fsn := by simp [Value.ownBlock]
          xb := HH.out, nxb := hlw, bel := HB.out.trans (HB1.out.mono hlw), n0 := Nat.le_trans hlw hs2 }
      clear HO HC HB1 HXL HX HH HB hnx cu
      go_wp2_with fail
      generalize hnb : w.heap.size = nb at *
      have HNB := hid hnb
      clear hnb
      generalize x.ib = ibx at *
      go_loopw [8, 9, 10, 48] (fun vi vs va s wr => ∃ (j : Nat) (x : IdxP) (T : List It) (cnt : List Int), s = .int .i64 j ∧ j ≤ cs.length ∧ Hid (Ch w wr nb n ibx nx x T cnt j vi vs va)) (fun _ _ _ s _ => cs.length - (intOf s).toNat)
      case atStart => exact ⟨0, x, _, _, rfl, Nat.zero_le _, HCH⟩
      case round =>
        clear HCH x
        obtain ⟨j, x, T, cnt, rfl, hj, HCH⟩ := hrel
        by_cases hlt : j < cs.length
        · obtain ⟨b, o, rfl, r0, r1, r2⟩ := row_cm (HR.out.below (w' := wr) (by rw [HNB.out]; exact HCH.out.bel)) hlt
          have HDj := hid (HD.out cs[j] (List.getElem_mem hlt))
          generalize cs[j] = cm at *
          obtain ⟨k, h, da⟩ := cm
          obtain ⟨d1, d2, d3, hde⟩ := HDj.out
          dsimp only at hde r0 r1 r2
          subst hde
          clear HDj
          generalize wr = wp at *
          go_upto_region 13 with fail
          have hb4 := below_new (w := wp) (.cells #[.int .i64 k, .string ⟨h.toArray⟩, .slice d1 d2 d3] 25)
          have HI := hid (ObjAt.new wp 25 #[.int .i64 k, .string ⟨h.toArray⟩, .slice d1 d2 d3])
          have HQ := hid (HCH.out.below hb4)
          have HNXK : Hid (nx < wp.heap.size) := by obtain ⟨cu, q1, -⟩ := HCH.out.nxt; exact q1.lt
          have HXK : Hid (∀ k, x.Has k → k < wp.heap.size) := fun k hk => HCH.out.idx.g.lt hk
          have HKN : Hid (nb ≤ wp.heap.size) := HCH.out.n0
          have HBI0 := hid (owns_new HCH.out.oi)
          have HBS0 := hid (owns_new HCH.out.os)
          have HBA0 := hid (owns_new HCH.out.oa)
          generalize wp.alloc (.cells #[.int .i64 k, .string ⟨h.toArray⟩, .slice d1 d2 d3] 25) = wq at *
          generalize wp.heap.size = kb at *
          clear hb4 r0 r1 r2 HCH
          have k0 := HI.out.cell 0 (.int .i64 k) rfl
          have k1 := HI.out.cell 1 (.string ⟨h.toArray⟩) rfl
          have k2 := HI.out.cell 2 (.slice d1 d2 d3) rfl
          have hat := idx_attr x n T k h (.slice d1 d2 d3) wq HQ.out.idx
          rw [HQ.out.ib] at hat
          have HAT := hid hat
          clear hat
          go_wp2_with fail
          refine HAT.out.mono ?_
          rintro e w3 ⟨hb, hcase⟩
          have HI3 := hid (HI.out.below hb)
          have HC3 := hid (HQ.out.below hb)
          clear hb HI HQ k0 k1 k2 HAT
          rcases hcase with ⟨hko, rfl⟩ | ⟨hko, v, rfl, hv⟩
          · clear hko
            go_wp2_with fail
            go_roundw
            case rel => exact ⟨j + 1, x, T, cnt, by go_num, by omega, HC3.out.skip⟩
            case measure => simp [intOf]; omega
          · have HKO := hid hko
            have HV := hid hv.ints
            have HG := hid HC3.out.idx.good
            have HVO := hid (show VecOk (depsL n (interL k h T)) from depsL_ok h1 h7 (inter_good' HG.out))
            have HLE := hid (depsL_len n (interL k h T))
            have hsp := seq_pos' (interL k h T)
            have hsb := seqMax_bound (n := n) (inter_good' (k := k) (h := h) HG.out)
            have htl : T.length ≤ j := HC3.out.len
            obtain ⟨av, cv, rfl, hrv, hzv, hlv, hmv⟩ := HV.out
            have HRV := hid hrv
            rw [HLE.out]
            clear hv hrv hzv hlv hmv hko HV
            obtain ⟨ai, ci, hvi, hri, -⟩ := owns_row HC3.out.oi
            obtain ⟨as1, cs2, hvs, hrs, -⟩ := owns_row HC3.out.os
            obtain ⟨aa, ca, hva, hra, -⟩ := owns_row HC3.out.oa
            subst hvi hvs hva
            have HRI := hid hri
            have HRS := hid hrs
            have HRA := hid hra
            clear hri hrs hra
            have hs3 : nb ≤ w3.heap.size := HC3.out.n0
            go_wp2_with fail
            generalize hb3 : w3.heap.size = b3 at *
            have HB3 := hid hb3
            clear hb3
            go_loopw [64] (fun s wr => ∃ q : Nat, s = .int .i64 q ∧ q ≤ T.length ∧ Hid (Below b3 w3 wr)) (fun s _ => T.length - (intOf s).toNat)
            case atStart => exact ⟨0, rfl, Nat.zero_le _, Below.refl _ _⟩
            case round =>
              obtain ⟨q, rfl, hq, HC⟩ := hrel
              have hbl : Below w3.heap.size w3 wr := by rw [HB3.out]; exact HC.out
              have hbw : b3 ≤ wr.heap.size := by have := HC.out.size; have := HB3.out; omega
              by_cases hlq : q < T.length
              · have HDq := hid (HC3.out.dat T[q] (List.getElem_mem hlq))
                have HGq := hid (HG.out T[q] (List.getElem_mem hlq))
                have HMEM : Hid (interB k h T[q].kind T[q].home = true → T[q] ∈ interL k h T) := fun hB => mem_inter (List.getElem_mem hlq) hB
                obtain ⟨ba, oa, rfl, t0, t1, t2⟩ := row_all (HRA.out.below hbl) hlq
                obtain ⟨bs, os, rfl, t3⟩ := row_sq (HRS.out.below hbl) hlq
                obtain ⟨bi, oi, rfl, t4, t5⟩ := row_id (HRI.out.below hbl) hlq
                have HIw := hid (HI3.out.below hbl)
                have HRVw := hid (HRV.out.below hbl)
                generalize T[q] = it at *
                obtain ⟨ki, ho, da, re, nu, se⟩ := it
                obtain ⟨e1, e2, e3, hde⟩ := HDq.out
                dsimp only at hde t0 t1 t2 t3 t4 t5 HMEM
                subst hde
                clear HDq hbl
                have HT3 := hid t3
                have HT4 := hid t4
                have HT5 := hid t5
                clear t3 t4 t5
                generalize wr = wz at *
                go_upto_region 18 with fail
                have hb4 := below_new (w := wz) (.cells #[.int .i64 ki, .string ⟨ho.toArray⟩, .slice e1 e2 e3] 25)
                have HJ := hid (ObjAt.new wz 25 #[.int .i64 ki, .string ⟨ho.toArray⟩, .slice e1 e2 e3])
                have HIq := hid (HIw.out.below hb4)
                have HRVq := hid (HRVw.out.below hb4)
                have HT3q := hid (cell_below HT3.out hb4)
                have HT4q := hid (cell_below HT4.out hb4)
                have HT5q := hid (cell_below HT5.out hb4)
                have HCq := hid (HC.out.trans (hb4.mono hbw))
                have hsq : b3 ≤ (wz.alloc (.cells #[.int .i64 ki, .string ⟨ho.toArray⟩, .slice e1 e2 e3] 25)).heap.size := Nat.le_trans hbw hb4.size
                generalize wz.alloc (.cells #[.int .i64 ki, .string ⟨ho.toArray⟩, .slice e1 e2 e3] 25) = wq2 at *
                generalize wz.heap.size = kz at *
                clear hb4 t0 t1 t2 HIw HRVw HT3 HT4 HT5 HC
                have k0 := HIq.out.cell 0 (.int .i64 k) rfl
                have k1 := HIq.out.cell 1 (.string ⟨h.toArray⟩) rfl
                have k2 := HIq.out.cell 2 (.slice d1 d2 d3) rfl
                have i0 := HJ.out.cell 0 (.int .i64 ki) rfl
                have i1 := HJ.out.cell 1 (.string ⟨ho.toArray⟩) rfl
                have i2 := HJ.out.cell 2 (.slice e1 e2 e3) rfl
                go_wp2_with fail
                have hb5 := below_new (w := wq2) (.cells #[.int .i64 ki, .string ⟨ho.toArray⟩, .slice e1 e2 e3] 25)
                have HGc := hid (ObjAt.new wq2 25 #[.int .i64 ki, .string ⟨ho.toArray⟩, .slice e1 e2 e3])
                have HRV5 := hid (HRVq.out.below hb5)
                have HT35 := hid (cell_below HT3q.out hb5)
                have HT45 := hid (cell_below HT4q.out hb5)
                have HT55 := hid (cell_below HT5q.out hb5)
                have HC5 := hid (HCq.out.trans (hb5.mono hsq))
                have hs5 := Nat.le_trans hsq hb5.size
                generalize wq2.alloc (.cells #[.int .i64 ki, .string ⟨ho.toArray⟩, .slice e1 e2 e3] 25) = w5 at *
                clear k0 k1 k2 i0 i1 i2 HIq HRVq HT3q HT4q HT5q HCq hb5 HJ
                refine (int_inter1 wq2.heap.size k ki h ho (.slice d1 d2 d3) (.slice e1 e2 e3) w5 HGc.out).mono ?_
                rintro e w6 ⟨rfl, hb⟩
                have HRV6 := hid (HRV5.out.below hb)
                have t3 := cell_below HT35.out hb
                have t4 := cell_below HT45.out hb
                have t5 := cell_below HT55.out hb
                have HC6 := hid (HC5.out.trans (hb.mono hs5))
                have hs6 : b3 ≤ w6.heap.size := Nat.le_trans hs5 hb.size
                clear hb HGc HRV5 HT35 HT45 HT55 HC5
                cases hB : interB k h ki ho with
                | false =>
                  clear hB
                  go_wp2_with fail
                  go_roundw
                  case rel => exact ⟨q + 1, by go_num, by omega, HC6⟩
                  case measure => simp [intOf]; omega
                | true =>
                  have hmem := HMEM.out hB
                  clear hB
                  have hse : se ≤ seqMax (interL k h T) := seqMax_mem hmem
                  have hdl : nu ≤ depMax re (interL k h T) := depMax_mem hmem
                  obtain ⟨-, g0, gn, g1, gm, g2, g3⟩ := HGq.out
                  dsimp only at g0 gn g1 gm g2 g3
                  obtain ⟨r, rfl⟩ : ∃ r : Nat, re = r := ⟨re.toNat, by omega⟩
                  have hrn : r < n := by omega
                  have HDL := hid hdl
                  clear hmem hdl gn
                  go_wp2_with fail
                  have hb8 := below_new (w := w6) (.cells #[.int .i64 r, .int .i64 nu] 37)
                  have HG8 := hid (ObjAt.new w6 37 #[.int .i64 r, .int .i64 nu])
                  have HRV8 := hid (HRV6.out.below hb8)
                  have HC8 := hid (HC6.out.trans (hb8.mono hs6))
                  have hs8 := Nat.le_trans hs6 hb8.size
                  clear hb8 t3 t4 t5 HRV6 HC6
                  generalize w6.alloc (.cells #[.int .i64 r, .int .i64 nu] 37) = w8 at *
                  have hcv := vec_covers1 w6.heap.size r av cv (depsL n (interL k h T)) nu w8 HRV8.out HVO.out HG8.out (by rw [HLE.out]; exact hrn) g1 (by rw [depsL_get]; exact HDL.out)
                  rw [HLE.out] at hcv
                  refine hcv.mono ?_
                  rintro e w9 ⟨rfl, hb⟩
                  have HC9 := hid (HC8.out.trans (hb.mono hs8))
                  clear hb hcv HC8 HG8 HRV8
                  go_wp2_with fail
                  go_roundw
                  case rel => exact ⟨q + 1, by go_num, by omega, HC9⟩
                  case measure => simp [intOf]; omega
              · have HC4 := hid (HC3.out.below hbl)
                have HI4 := hid (HI3.out.below hbl)
                have hn4 : nb ≤ wr.heap.size := HC4.out.n0
                have hqe : q = T.length := by omega
                clear HC HB3 hbl HRV HRI HRS HRA HVO HI3 HC3 hs3
                generalize wr = w4 at *
                obtain ⟨r, hre⟩ : ∃ r, r = j % n := ⟨_, rfl⟩
                have hrn : r < n := by rw [hre]; exact Nat.mod_lt _ (by omega)
                have hrm : (j : Int) % (n : Int) = (r : Int) := by rw [hre]; omega
                have hrt : Int.tmod (j : Int) (n : Int) = (r : Int) := by rw [hre]; exact (Int.ofNat_tmod j n).symm
                clear hre
                go_upto_region 22 with fail
                obtain ⟨cu, hO, hC⟩ := HC4.out.nxt
                have hcl : r < cnt.length := by rw [HC4.out.cl]; exact hrn
                have HCB := hid (HC4.out.cb cnt[r] (List.getElem_mem hcl))
                have c0 := hO.cell r (.int .i64 cnt[r]) (hC.2 r hcl)
                have f0 := hO.frozen r
                have hcr : (cnt.set r (cnt[r] + 1))[r]? = some (cnt[r] + 1) := by rw [List.getElem?_set_self hcl]
                have HC5 := hid (HC4.out.set r (cnt[r] + 1) (by have := HCB.out; omega))
                have hb0 := HCB.out.1
                have hb1 := HCB.out.2
                have HI5 := hid (HI4.out.keptS (KeptS.set (S := fun q => q = nx) w4 ⟨nx, r, none⟩ (.int .i64 (cnt[r] + 1)) rfl) (fun e => by have := HNXK.out; omega))
                generalize hcnt2 : cnt.set r (cnt[r] + 1) = cnt2 at *
                generalize cnt[r] = cr at *
                have hrI : (r : Int) < (n : Int) := by omega
                clear hO hC HC4 HI4 hrt hcl hcnt2
                go_upto_region 23 with fail
                generalize w4.setCell ⟨nx, r, none⟩ (.int .i64 (cr + 1)) = w5 at *
                clear c0 f0 cu
                obtain ⟨cu, hO, hC⟩ := HC5.out.nxt
                have c0 : w5.cell? ⟨nx, r, none⟩ = some (.int .i64 (cr + 1)) := by
                  obtain ⟨hl, he⟩ := List.getElem?_eq_some_iff.1 hcr
                  exact hO.cell r _ (by rw [hC.2 r hl, he])
                clear hO hC hcr
                have hn5 : nb ≤ w5.heap.size := HC5.out.n0
                go_upto_region 24 with fail
                have hb4 := below_new (w := w5) (.cells #[.int .i64 r, .int .i64 (cr + 1)] 37)
                have HJ := hid (ObjAt.new w5 37 #[.int .i64 r, .int .i64 (cr + 1)])
                have HI6 := hid (HI5.out.below hb4)
                have HC6 := hid (HC5.out.below hb4)
                have HXA : Hid (∀ k, x.Has k → k < w5.heap.size) := fun k hk => HC5.out.idx.g.lt hk
                have HKA0 : Hid (kb < w5.heap.size) := HI5.out.lt
                generalize w5.alloc (.cells #[.int .i64 r, .int .i64 (cr + 1)] 37) = w6 at *
                generalize w5.heap.size = ka at *
                clear hb4 c0 HI5 HC5 cu
                have hsT : seqMax (interL k h T) ≤ T.length := seqMax_upto (by omega) (fun i hi => HC6.out.seqs i (List.mem_filter.1 hi).1)
                generalize seqMax (interL k h T) = sm at *
                have k0 := HI6.out.cell 0 (.int .i64 k) rfl
                have k1 := HI6.out.cell 1 (.string ⟨h.toArray⟩) rfl
                have k2 := HI6.out.cell 2 (.slice d1 d2 d3) rfl
                have j0 := HJ.out.cell 0 (.int .i64 r) rfl
                have j1 := HJ.out.cell 1 (.int .i64 (cr + 1)) rfl
                have HS5 : Hid (S5 kb ka k h (.slice d1 d2 d3) r (cr + 1) w6) := ⟨k0, k1, k2, j0, j1⟩
                have hadd := idx_add x n T ⟨k, h, .slice d1 d2 d3, r, cr + 1, sm + 1⟩ w6 HC6.out.idx
                rw [HC6.out.ib] at hadd
                have HADD := hid hadd
                have HRO : Hid (RangeOk n ⟨k, h, .slice d1 d2 d3, r, cr + 1, sm + 1⟩) := ⟨by dsimp only; omega, by dsimp only; omega, by dsimp only; omega, by dsimp only; omega, by dsimp only; omega, by dsimp only; omega⟩
                have HGI : Hid (GoodIt n ⟨k, h, .slice d1 d2 d3, r, cr + 1, sm + 1⟩) := ⟨HKO.out, HRO.out⟩
                have HER : Hid (addErr n ⟨k, h, .slice d1 d2 d3, r, cr + 1, sm + 1⟩ = 0) := by show _ = _; unfold addErr; rw [if_pos HGI.out.1, if_pos HRO.out]
                have HAS : Hid (addS n T ⟨k, h, .slice d1 d2 d3, r, cr + 1, sm + 1⟩ = T ++ [⟨k, h, .slice d1 d2 d3, r, cr + 1, sm + 1⟩]) := by show _ = _; unfold addS; rw [if_pos HGI.out]
                clear hadd
                go_wp2_with fail
                refine HADD.out.mono ?_
                rintro e w7 ⟨rfl, ⟨x', hx1, hx2, hx3⟩, hkx⟩
                rw [HER.out]
                rw [HAS.out] at hx2
                have HX1 := hid hx1
                have HX2 := hid hx2
                have HX3 := hid hx3
                have HKX := hid hkx
                replace HS5 := hid (HS5.out.keptS hkx (fun hh => by have := HXK.out _ hh; omega) (fun hh => by have := HXA.out _ hh; omega))
                have HOI := hid (owns_keptS HC6.out.oi hkx (fun g hg => HC6.out.fi g hg))
                have HOS := hid (owns_keptS HC6.out.os hkx (fun g hg => HC6.out.fs g hg))
                have HOA := hid (owns_keptS HC6.out.oa hkx (fun g hg => HC6.out.fa g hg))
                clear hx1 hx2 hx3 hkx k0 k1 k2 j0 j1 HADD
                go_upto_region 26 with fail
                have hn7 : ka < w7.heap.size := by have h1 := HJ.out.lt; have h2 := HKX.out.size; omega
                have hn8 : nb ≤ w7.heap.size := by have h1 := HC6.out.n0; have h2 := HKX.out.size; omega
                obtain ⟨b8, hb8⟩ : ∃ b, b = w7.heap.size := ⟨_, rfl⟩
                have HB8 := hid hb8
                have HNB7_ : Hid (Nb b8 w7) := Nat.le_of_eq hb8
                have HKS7_ : Hid (KeptS (SS (.slice ai T.length ci) (.slice as1 T.length cs2) (.slice aa T.length ca)) w7 w7) := KeptS.refl _ _
                have HLI : Hid (∀ g, (Value.slice ai T.length ci).ownBlock = some g → g < b8) := fun g hg => by rw [hb8]; exact owns_new HOI.out g hg
                have HLS : Hid (∀ g, (Value.slice as1 T.length cs2).ownBlock = some g → g < b8) := fun g hg => by rw [hb8]; exact owns_new HOS.out g hg
                have HLA : Hid (∀ g, (Value.slice aa T.length ca).ownBlock = some g → g < b8) := fun g hg => by rw [hb8]; exact owns_new HOA.out g hg
                have HPsi := hid (own_apart HOS.out HOI.out (by decide))
                have HPai := hid (own_apart HOA.out HOI.out (by decide))
                have HPas := hid (own_apart HOA.out HOS.out (by decide))
                rw [← hb8] at hn7 hn8
                clear hb8
                have hkaa := HKA0.out
                have HKI : Hid ((Value.slice ai T.length ci).ownBlock ≠ some kb) := fun e => absurd (HBI0.out _ e) (Nat.lt_irrefl _)
                have HAI : Hid ((Value.slice ai T.length ci).ownBlock ≠ some ka) := fun e => by have := HBI0.out _ e; omega
                have HKS_ : Hid ((Value.slice as1 T.length cs2).ownBlock ≠ some kb) := fun e => absurd (HBS0.out _ e) (Nat.lt_irrefl _)
                have HAS_ : Hid ((Value.slice as1 T.length cs2).ownBlock ≠ some ka) := fun e => by have := HBS0.out _ e; omega
                have HKA : Hid ((Value.slice aa T.length ca).ownBlock ≠ some kb) := fun e => absurd (HBA0.out _ e) (Nat.lt_irrefl _)
                have HAA : Hid ((Value.slice aa T.length ca).ownBlock ≠ some ka) := fun e => by have := HBA0.out _ e; omega
                obtain ⟨zi, hfi, hzi⟩ := infoID
                obtain ⟨zc, hfc, hzc⟩ := infoCmd
                have HFI := hid hfi
                have HZI := hid hzi
                have HFC := hid hfc
                have HZC := hid hzc
                clear hfi hzi hfc hzc
                have q0 := HS5.out.1
                have q1 := HS5.out.2.1
                have q2 := HS5.out.2.2.1
                have q3 := HS5.out.2.2.2.1
                have q4 := HS5.out.2.2.2.2
                go_region_held3 (fun w' => w'.cell? ⟨kb, 0, none⟩ = some (.int .i64 k) ∧ w'.cell? ⟨kb, 1, none⟩ = some (.string ⟨h.toArray⟩) ∧ w'.cell? ⟨kb, 2, none⟩ = some (.slice d1 d2 d3) ∧ w'.cell? ⟨ka, 0, none⟩ = some (.int .i64 r) ∧ w'.cell? ⟨ka, 1, none⟩ = some (.int .i64 (cr + 1)))
                  (first | (solve | (repeat (first | with_reducible exact HS5.out | with_reducible exact HS5x5.out | with_reducible exact HS5x6.out | with_reducible exact HS5x7.out | with_reducible refine S5.alloc ?_ _ | with_reducible refine S5.drew ?_ | with_reducible refine S5.drewN ?_))) | go_keep)
                  (first
                    | ((refine step_app1 rfl (.tmp 113) (.tmp 115) 47 rfl nb b8 37 Try.underlying47 HFI.out HZI.out (by decide) (.slice ai T.length ci) T.length (T.flatMap idC) (idC ⟨k, h, .slice d1 d2 d3, r, cr + 1, sm + 1⟩) (by rfl) (by repeat (first | with_reducible exact HOI.out | with_reducible refine World.ownsRow.alloc ?_ _ | with_reducible refine World.ownsRow.drew ?_ | with_reducible refine Own.drewN ?_)) (by show New1 b8 _ (.slice (some ⟨_, 0, none⟩) 1 1) #[Value.int .i64 r, Value.int .i64 (cr + 1)].toList; repeat (first | with_reducible exact New1.mk (by repeat (first | with_reducible exact HNB7_.out | with_reducible refine Nb.alloc ?_ _ | with_reducible refine Nb.drew ?_ | with_reducible refine Nb.drewN ?_)) (by simp) | with_reducible refine New1.alloc ?_ _ | with_reducible refine New1.drew ?_  | with_reducible refine New1.drewN ?_)) rfl (by simp [idC, Value.oneCell']) (by unfold maxLen; omega) (by omega) (Nat.le_trans hn8 (show Nb b8 _ from (by repeat (first | with_reducible exact HNB7_.out | with_reducible refine Nb.alloc ?_ _ | with_reducible refine Nb.drew ?_ | with_reducible refine Nb.drewN ?_)))) ?_); (intro g5 cp5 wa5 ho5 hg5 hat5); have HOI5 := hid ho5; have HOS5 := hid (World.ownsRow.kept (xs := T.flatMap sqC) (v := (.slice as1 T.length cs2)) (n := T.length) (base := nb) (e := 3) (size := 1) (by repeat (first | with_reducible exact HOS.out | with_reducible refine World.ownsRow.alloc ?_ _ | with_reducible refine World.ownsRow.drew ?_ | with_reducible refine Own.drewN ?_)) hg5 HPsi.out); have HOA5 := hid (World.ownsRow.kept (xs := T.flatMap cmC) (v := (.slice aa T.length ca)) (n := T.length) (base := nb) (e := 25) (size := 3) (by repeat (first | with_reducible exact HOA.out | with_reducible refine World.ownsRow.alloc ?_ _ | with_reducible refine World.ownsRow.drew ?_ | with_reducible refine Own.drewN ?_)) hg5 HPai.out); have HPis := hid (own_apart ho5 HOS5.out (by decide)); have HPia := hid (own_apart ho5 HOA5.out (by decide)); have HS5x5 := hid (S5.grown (kb := kb) (ka := ka) (k := k) (h := h) (d := .slice d1 d2 d3) (r := r) (nu := cr + 1) (by repeat (first | with_reducible exact HS5.out | with_reducible refine S5.alloc ?_ _ | with_reducible refine S5.drew ?_ | with_reducible refine S5.drewN ?_)) hg5 HKI.out HAI.out); have HKS5 := hid (KS.grown (S := SS (.slice ai T.length ci) (.slice as1 T.length cs2) (.slice aa T.length ca)) (w := w7) (by repeat (first | with_reducible exact HKS7_.out | with_reducible refine KS.alloc ?_ _ | with_reducible refine KS.drew ?_ | with_reducible refine KS.drewN ?_)) hg5 (fun g hg => .inl hg)); have HNB5 := hid (Nb.grown (nb := b8) (by repeat (first | with_reducible exact HNB7_.out | with_reducible refine Nb.alloc ?_ _ | with_reducible refine Nb.drew ?_ | with_reducible refine Nb.drewN ?_)) hg5); have HG5 := hid hg5; have HAT5 : Hid ((Value.slice ai T.length ci).ownBlock = some g5 ∨ b8 ≤ g5) := hat5.imp_right (fun e => by rw [e]; exact (show Nb b8 _ from (by repeat (first | with_reducible exact HNB7_.out | with_reducible refine Nb.alloc ?_ _ | with_reducible refine Nb.drew ?_ | with_reducible refine Nb.drewN ?_)))); clear ho5 hg5 hat5)
                    | ((refine step_app1 rfl (.tmp 117) (.tmp 119) 31 rfl nb b8 3 Try.underlying31 infoInt rfl (by decide) (.slice as1 T.length cs2) T.length (T.flatMap sqC) (sqC ⟨k, h, .slice d1 d2 d3, r, cr + 1, sm + 1⟩) (by rfl) (by repeat (first | with_reducible exact HOS5.out | with_reducible refine World.ownsRow.alloc ?_ _ | with_reducible refine World.ownsRow.drew ?_ | with_reducible refine Own.drewN ?_)) (by show New1 b8 _ (.slice (some ⟨_, 0, none⟩) 1 1) #[Value.int .i64 (sm + 1)].toList; repeat (first | with_reducible exact New1.mk (by repeat (first | with_reducible exact HNB5.out | with_reducible exact HNB7_.out | with_reducible refine Nb.alloc ?_ _ | with_reducible refine Nb.drew ?_ | with_reducible refine Nb.drewN ?_)) (by simp) | with_reducible refine New1.alloc ?_ _ | with_reducible refine New1.drew ?_ | with_reducible refine New1.grown HG5.out HLI.out ?_ | with_reducible refine New1.drewN ?_)) rfl (by simp [sqC, Value.oneCell']) (by unfold maxLen; omega) (by omega) (Nat.le_trans hn8 (show Nb b8 _ from (by repeat (first | with_reducible exact HNB5.out | with_reducible refine Nb.alloc ?_ _ | with_reducible refine Nb.drew ?_ | with_reducible refine Nb.drewN ?_)))) ?_); (intro g6 cp6 wa6 ho6 hg6 hat6); have HOS6 := hid ho6; have HOI6 := hid (World.ownsRow.kept (xs := T.flatMap idC ++ idC ⟨k, h, .slice d1 d2 d3, r, cr + 1, sm + 1⟩) (v := .slice (some ⟨g5, 0, none⟩) (T.length + 1) cp5) (n := T.length + 1) (base := nb) (e := 37) (size := 2) (by repeat (first | with_reducible exact HOI5.out | with_reducible refine World.ownsRow.alloc ?_ _ | with_reducible refine World.ownsRow.drew ?_ | with_reducible refine Own.drewN ?_)) hg6 HPis.out); have HOA6 := hid (World.ownsRow.kept (xs := T.flatMap cmC) (v := (.slice aa T.length ca)) (n := T.length) (base := nb) (e := 25) (size := 3) (by repeat (first | with_reducible exact HOA5.out | with_reducible refine World.ownsRow.alloc ?_ _ | with_reducible refine World.ownsRow.drew ?_ | with_reducible refine Own.drewN ?_)) hg6 HPas.out); have HPsa := hid (own_apart ho6 HOA6.out (by decide)); have HS5x6 := hid (S5.grown (kb := kb) (ka := ka) (k := k) (h := h) (d := .slice d1 d2 d3) (r := r) (nu := cr + 1) (by repeat (first | with_reducible exact HS5x5.out | with_reducible refine S5.alloc ?_ _ | with_reducible refine S5.drew ?_ | with_reducible refine S5.drewN ?_)) hg6 HKS_.out HAS_.out); have HKS6 := hid (KS.grown (S := SS (.slice ai T.length ci) (.slice as1 T.length cs2) (.slice aa T.length ca)) (w := w7) (by repeat (first | with_reducible exact HKS5.out | with_reducible refine KS.alloc ?_ _ | with_reducible refine KS.drew ?_ | with_reducible refine KS.drewN ?_)) hg6 (fun g hg => .inr (.inl hg))); have HNB6 := hid (Nb.grown (nb := b8) (by repeat (first | with_reducible exact HNB5.out | with_reducible refine Nb.alloc ?_ _ | with_reducible refine Nb.drew ?_ | with_reducible refine Nb.drewN ?_)) hg6); have HG6 := hid hg6; have HAT6 : Hid ((Value.slice as1 T.length cs2).ownBlock = some g6 ∨ b8 ≤ g6) := hat6.imp_right (fun e => by rw [e]; exact (show Nb b8 _ from (by repeat (first | with_reducible exact HNB5.out | with_reducible refine Nb.alloc ?_ _ | with_reducible refine Nb.drew ?_ | with_reducible refine Nb.drewN ?_)))); clear ho6 hg6 hat6)
                    | ((refine step_app1 rfl (.tmp 121) (.tmp 123) 44 rfl nb b8 25 Try.underlying44 HFC.out HZC.out (by decide) (.slice aa T.length ca) T.length (T.flatMap cmC) (cmC ⟨k, h, .slice d1 d2 d3, r, cr + 1, sm + 1⟩) (by rfl) (by repeat (first | with_reducible exact HOA6.out | with_reducible refine World.ownsRow.alloc ?_ _ | with_reducible refine World.ownsRow.drew ?_ | with_reducible refine Own.drewN ?_)) (by show New1 b8 _ (.slice (some ⟨_, 0, none⟩) 1 1) #[Value.int .i64 k, Value.string ⟨h.toArray⟩, Value.slice d1 d2 d3].toList; repeat (first | with_reducible exact New1.mk (by repeat (first | with_reducible exact HNB6.out | with_reducible exact HNB5.out | with_reducible exact HNB7_.out | with_reducible refine Nb.alloc ?_ _ | with_reducible refine Nb.drew ?_ | with_reducible refine Nb.drewN ?_)) (by simp) | with_reducible refine New1.alloc ?_ _ | with_reducible refine New1.drew ?_ | with_reducible refine New1.grown HG6.out HLS.out ?_ | with_reducible refine New1.grown HG5.out HLI.out ?_ | with_reducible refine New1.drewN ?_)) rfl (by simp [cmC, Value.oneCell']) (by unfold maxLen; omega) (by omega) (Nat.le_trans hn8 (show Nb b8 _ from (by repeat (first | with_reducible exact HNB6.out | with_reducible refine Nb.alloc ?_ _ | with_reducible refine Nb.drew ?_ | with_reducible refine Nb.drewN ?_)))) ?_); (intro g7 cp7 wa7 ho7 hg7 hat7); have HOA7 := hid ho7; have HOI7 := hid (World.ownsRow.kept (xs := T.flatMap idC ++ idC ⟨k, h, .slice d1 d2 d3, r, cr + 1, sm + 1⟩) (v := .slice (some ⟨g5, 0, none⟩) (T.length + 1) cp5) (n := T.length + 1) (base := nb) (e := 37) (size := 2) (by repeat (first | with_reducible exact HOI6.out | with_reducible refine World.ownsRow.alloc ?_ _ | with_reducible refine World.ownsRow.drew ?_ | with_reducible refine Own.drewN ?_)) hg7 HPia.out); have HOS7 := hid (World.ownsRow.kept (xs := T.flatMap sqC ++ sqC ⟨k, h, .slice d1 d2 d3, r, cr + 1, sm + 1⟩) (v := .slice (some ⟨g6, 0, none⟩) (T.length + 1) cp6) (n := T.length + 1) (base := nb) (e := 3) (size := 1) (by repeat (first | with_reducible exact HOS6.out | with_reducible refine World.ownsRow.alloc ?_ _ | with_reducible refine World.ownsRow.drew ?_ | with_reducible refine Own.drewN ?_)) hg7 HPsa.out); have HS5x7 := hid (S5.grown (kb := kb) (ka := ka) (k := k) (h := h) (d := .slice d1 d2 d3) (r := r) (nu := cr + 1) (by repeat (first | with_reducible exact HS5x6.out | with_reducible refine S5.alloc ?_ _ | with_reducible refine S5.drew ?_ | with_reducible refine S5.drewN ?_)) hg7 HKA.out HAA.out); have HKS7 := hid (KS.grown (S := SS (.slice ai T.length ci) (.slice as1 T.length cs2) (.slice aa T.length ca)) (w := w7) (by repeat (first | with_reducible exact HKS6.out | with_reducible refine KS.alloc ?_ _ | with_reducible refine KS.drew ?_ | with_reducible refine KS.drewN ?_)) hg7 (fun g hg => .inr (.inr hg))); have HNB7 := hid (Nb.grown (nb := b8) (by repeat (first | with_reducible exact HNB6.out | with_reducible refine Nb.alloc ?_ _ | with_reducible refine Nb.drew ?_ | with_reducible refine Nb.drewN ?_)) hg7); have HG7 := hid hg7; have HAT7 : Hid ((Value.slice aa T.length ca).ownBlock = some g7 ∨ b8 ≤ g7) := hat7.imp_right (fun e => by rw [e]; exact (show Nb b8 _ from (by repeat (first | with_reducible exact HNB6.out | with_reducible refine Nb.alloc ?_ _ | with_reducible refine Nb.drew ?_ | with_reducible refine Nb.drewN ?_)))); clear ho7 hg7 hat7))
                all_goals
                  go_wp2_with fail
                  go_roundw
                  case rel => exact ⟨j + 1, x', _, cnt2, by go_num, by omega, Ch.next HC6.out HX2.out HX1.out HX3.out HKX.out (by first | exact HKS7.out | exact KS.drew HKS7.out) (by first | exact HOI7.out | exact HOI7.out.drew) (by first | exact HOS7.out | exact HOS7.out.drew) (by first | exact HOA7.out | exact HOA7.out.drew) (fun g hg => by cases hg; rw [← HB8.out]; exact HAT5.out) (fun g hg => by cases hg; rw [← HB8.out]; exact HAT6.out) (fun g hg => by cases hg; rw [← HB8.out]; exact HAT7.out) (by show sm + 1 ≤ _; omega) (by omega) ⟨d1, d2, d3, rfl⟩⟩
                  case measure => simp [intOf]; omega
        · have HBW := hid HCH.out.bel
          have HNW : Hid (nb ≤ wr.heap.size) := HCH.out.n0
          go_wp2_with fail
          refine (awake10 _).mono ?_
          rintro e w5 ⟨rfl, hb⟩
          have HBZ := hid (HBW.out.trans (hb.mono HNW.out))
          clear hb
          go_wp2_with fail
          go_ret
          exact ⟨rfl, by rw [HNB.out]; exact HBZ.out⟩
def T : Ty := .pair (.int .i64) (.pair (.slice TCmd) .unit)
theorem walk' (W : World) (vs : List Value) (el : T.El) (hr : ArgsRd W T vs el) (hf : Fit T el) : Calls Try.prog 4 vs.toArray W fun e w' => e = .returned (.bool true) ∧ Below W.heap.size W w' := by
  obtain ⟨v1, r1, cs1, rfl, hv1, hx1, v2, r2, cs2, rfl, hv2, hx2, rfl⟩ := hr
  obtain ⟨rfl, -⟩ := hx1
  obtain rfl : v1 = .int .i64 el.fst := by simpa [ValOf, eq_comm] using hv1
  obtain rfl : cs2 = [v2] := hv2
  obtain ⟨a, c, cs, rfl, hl2, hr2, hd2, hc2, hm2⟩ := cmds_of hx2
  exact walk el.fst a c cs W hr2 hd2

theorem own : ownKnob Try.prog.godebug = none := by kernel_rfl
theorem laidOut : laidOutB Try.prog = true := by kernel_rfl

set_option maxRecDepth 100000 in
theorem lifted (os : Os) (started : os.Started) (H : Type) (enc : TypeId × Value → H) :
    ReturnsInHanded {} Try.checked os 4 .any (Rows.interfChainsSpec.pre6 enc Try.prog Try.f4 Rows.interfChainsRow.domain false) (Rows.interfChainsSpec.post enc Try.prog Try.f4 false true false false) := by
  refine returnsInHanded_of_change_sized (C := Try.checked) own started (by kernel_rfl) Try.func4
    (ChangeSpec.witness6 (enc := enc) (C := Try.checked) false ⟨#[], #[.int .i64 0, .slice none 0 0], []⟩ 16 (by kernel_rfl) (by kernel_rfl) (by kernel_rfl) (by kernel_rfl)) ?_
  intro W base args ds gs before hval hW _ hsz _
  exact law_said T (by kernel_rfl) laidOut (by kernel_rfl) rfl rfl Try.underlying4 (fun ds h => by
    match ds, h with
    | [d0, d1], _ => rfl) walk' W base args ds gs before hval hW hsz

theorem over : Rows.interfChainsRow.holds Try.pinned (OpenSpec.ofChange Rows.interfChainsSpec) :=
  OpenClaim.holds_of_wide 4 Try.f4 rfl rfl rfl rfl rfl rfl rfl ⟨rfl, rfl, rfl, rfl, rfl⟩ rfl rfl rfl rfl rfl (by kernel_rfl) Try.func4 (by kernel_rfl)
    (of_decide_eq_true (by kernel_rfl)) (by unfold Func.isWrapper; first | (rw [if_pos (by decide +kernel)]; kernel_rfl) | (rw [if_neg (by decide +kernel)]; exact ⟨rfl, rfl⟩))
    (fun os started H enc _ => lifted os started H enc)

theorem proved : Rows.InterfChainsSaid := over
#print axioms proved
end Go.Proofs.Ytongefjadoidbaa.interfChains
