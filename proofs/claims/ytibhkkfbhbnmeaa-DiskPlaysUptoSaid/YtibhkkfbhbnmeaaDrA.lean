/-
  DiskPlays: alike.
-/
import Derived.Test.YtibhkkfbhbnmeaaDr9
namespace Go.Proofs.Ytibhkkfbhbnmeaa
open Go.RowKit
set_option maxRecDepth 20000
set_option linter.unusedVariables false

theorem sum_total {F : List Fl} {L : List Fr} (h : Rel L (abs F)) : (total F : Nat) = sumR L := by rw [h.sum, total_abs]; rfl
theorem read_is {w w' : World} {F : List Fl} {L : List Fr} {cap : Int} {e : Ending} (hr : Rel L (abs F)) (hg : Good cap (abs F)) {i : Nat} (hi : i < L.length) (hp : ReadPost w F ⟨L[i].nm.toArray⟩ e w') :
    ∃ (a : Option Addr) (c : Nat), e = .returned (.tuple #[.slice a L[i].b.length c, .int .i64 0]) ∧ Below w.heap.size w w' ∧ w'.ownsRow w.heap.size 5 1 (.slice a L[i].b.length c) L[i].b.length (L[i].b.map byt) := by
  have hn : L[i].nm ∈ (abs F).map Prod.fst := List.mem_map.2 ⟨_, hr.1.mem_iff.1 (List.mem_map.2 ⟨L[i], List.getElem_mem hi, rfl⟩), rfl⟩
  obtain ⟨hb, ⟨h1, -⟩ | ⟨-, x, v, hx, hxn, rfl, ho⟩⟩ := hp
  · exact absurd (find_ok hg hn) h1
  · have := (file_same hr hg hx hi hxn.symm).1
    rw [← this] at ho
    obtain ⟨a, c, rfl, -, -⟩ := owns_row ho
    exact ⟨a, c, rfl, hb, ho⟩
theorem safe_is {w w' : World} {F : List Fl} {L : List Fr} {cap : Int} {e : Ending} (hr : Rel L (abs F)) (hg : Good cap (abs F)) {i : Nat} (hi : i < L.length) (hp : SafePost w F ⟨L[i].nm.toArray⟩ e w') :
    e = .returned (.tuple #[.int .i64 (L[i].safe : Nat), .int .i64 0]) ∧ Below w.heap.size w w' := by
  have hn : L[i].nm ∈ (abs F).map Prod.fst := List.mem_map.2 ⟨_, hr.1.mem_iff.1 (List.mem_map.2 ⟨L[i], List.getElem_mem hi, rfl⟩), rfl⟩
  obtain ⟨hb, ⟨h1, -⟩ | ⟨-, x, hx, hxn, rfl⟩⟩ := hp
  · exact absurd (find_ok hg hn) h1
  · have := (file_same hr hg hx hi hxn.symm).2
    rw [← this]
    exact ⟨rfl, hb⟩

set_option maxHeartbeats 4000000 in
theorem alike_yes (B : Nat) (w0 wr : World) (d m xd : Nat) (cap : Int) (F : List Fl) (lv : Value) (L : List Fr) (h : Jn B w0 wr d m xd cap F lv L) (r : Rel L (abs F)) (hg : Good cap (abs F)) (hcap : cap ≤ 1073741824) (hF : F.length ≤ 1048576) :
    Calls Try.prog 27 #[.pointer (some ⟨d, 0, none⟩), .pointer (some ⟨xd, 0, none⟩)] wr fun e w' => e = .returned (.bool true) ∧ Below wr.heap.size wr w' := by
  have HD := hid h.dk
  have HX := hid h.rf
  have HR := hid r
  have HG := hid hg
  have hll : L.length ≤ 1048576 := by rw [r.flen]; exact hF
  have htot : total F ≤ 1073741824 := by
    have h1 : (total F : Int) ≤ cap := by rw [total_abs]; exact hg.tot
    omega
  have hsum : sumR L ≤ 1073741824 := by rw [← sum_total r]; exact htot
  have d0 := h.dk.obj.cell 0 (.map (some m)) rfl
  clear h r hg
  go_enter Try.func27, Try.ntmps27
  go_wp2_with fail
  refine (tab_files m F wr HD.out.tab (fun x hx => by have := (fname_short (HG.out.nm _ (mem_abs rfl hx))).2; have h2 : x.nm.length ≤ 40 := this; unfold maxLen; omega) (by omega)).mono ?_
  rintro e w1 ⟨nv, rfl, hon, hb⟩
  obtain ⟨na, nc, rfl, hrn, -⟩ := owns_row hon
  rw [names_abs, sort_names HR.out] at hrn
  rw [← HR.out.flen]
  have HRN := hid hrn
  have HD1 := hid (HD.out.below hb)
  have HX1 := hid (HX.out.below hb)
  have HB1 := hid hb
  clear hon hrn hb d0
  obtain ⟨la, lc, hlv, -⟩ := HX.out.len
  subst hlv
  have d0 := HD1.out.obj.cell 0 (.map (some m)) rfl
  have x1 := HX1.out.obj.cell 1 (.slice la L.length lc) rfl
  have hs1 := HB1.out.size
  go_wp2_with fail
  refine (tab_used m F w1 HD1.out.tab (by omega)).mono ?_
  rintro e w2 ⟨rfl, hb⟩
  have HD2 := hid (HD1.out.below hb)
  have HX2 := hid (HX1.out.below hb)
  have HRN2 := hid (HRN.out.below hb)
  have HB2 := hid (HB1.out.trans (hb.mono hs1))
  have hs2 := Nat.le_trans hs1 hb.size
  clear hb d0 x1
  go_wp2_with fail
  refine (refd_used xd B cap _ L w2 HX2.out (by omega) (by omega)).mono ?_
  rintro e w3 ⟨rfl, rfl⟩
  rw [sum_total HR.out]
  have hne : (sumR L != sumR L) = false := by simp
  have x1 := HX2.out.obj.cell 1 (.slice la L.length lc) rfl
  go_wp2_with fail
  clear hne x1
  generalize hwr : wr = wo at *
  have HWO := hid hwr
  clear hwr
  go_loopw [41] (fun s wz => ∃ i : Nat, s = .int .i64 i ∧ i ≤ L.length ∧ Hid (Below w2.heap.size w2 wz)) (fun s _ => L.length - (intOf s).toNat)
  case atStart => exact ⟨0, rfl, Nat.zero_le _, Below.refl _ _⟩
  case round =>
    obtain ⟨i, rfl, hi, HBz⟩ := hrel
    have HDz := hid (HD2.out.below HBz.out)
    have HXz := hid (HX2.out.below HBz.out)
    have HRz := hid (HRN2.out.below HBz.out)
    have hsz := HBz.out.size
    by_cases hlt : i < L.length
    · obtain ⟨la', lc', e, hrow⟩ := HXz.out.len
      cases e
      obtain ⟨b, o, rfl, r0, r1, r2⟩ := row_fr hrow hlt
      have hov := HXz.out.bs L[i] (List.getElem_mem hlt)
      obtain ⟨va, vc, hve, -, -, -, -⟩ := owns_bytes hov
      rw [hve] at r1 hov
      obtain ⟨nb, no, rfl, hcn⟩ := name_at HRz.out (k := i) (by simpa using hlt)
      rw [List.getElem_map] at hcn
      have hbl : L[i].b.length ≤ 1073741824 := by
        have h1 := sumR_take_le L (i + 1)
        rw [sumR_take_succ L i hlt] at h1
        omega
      have hrd := fun (w w' : World) (e : Ending) (hp : ReadPost w F ⟨L[i].nm.toArray⟩ e w') => read_is HR.out HG.out hlt hp
      have hsf := fun (w w' : World) (e : Ending) (hp : SafePost w F ⟨L[i].nm.toArray⟩ e w') => safe_is HR.out HG.out hlt hp
      have HRD := hid hrd
      have HSF := hid hsf
      have HOV := hid (owns_bytes hov)
      clear hve hrow hov hrd hsf
      obtain ⟨fnm, hfnm⟩ : ∃ z, z = L[i].nm := ⟨_, rfl⟩
      obtain ⟨fbb, hfbb⟩ : ∃ z, z = L[i].b := ⟨_, rfl⟩
      obtain ⟨fsf, hfsf⟩ : ∃ z, z = L[i].safe := ⟨_, rfl⟩
      rw [← hfnm] at r0 hcn HRD HSF
      rw [← hfbb] at r1 HRD HOV hbl
      rw [← hfsf] at r2 HSF
      clear hfnm hfbb hfsf
      go_upto_region 7 with fail
      have hbn := below_new (w := wr) (.cells #[.string ⟨fnm.toArray⟩, .slice va fbb.length vc, .int .i64 (fsf : Nat)] 43)
      have HT := hid (ObjAt.new wr 43 #[.string ⟨fnm.toArray⟩, .slice va fbb.length vc, .int .i64 (fsf : Nat)])
      have HD3 := hid (HDz.out.below hbn)
      have HOV3 := hid (HOV.out.below hbn)
      have HRN3 := hid (HRz.out.below hbn)
      have HB3 := hid (HBz.out.trans (hbn.mono hsz))
      have hs3 := Nat.le_trans hsz hbn.size
      have hcn3 := (hbn.cell (p := ⟨nb, no + i, none⟩) (lt_of_cell hcn)).trans hcn
      clear r0 r1 r2 hbn HDz HXz HRz HBz HOV hcn
      generalize wr.alloc (.cells #[.string ⟨fnm.toArray⟩, .slice va fbb.length vc, .int .i64 (fsf : Nat)] 43) = w3 at *
      generalize wr.heap.size = tb at *
      have t0 := HT.out.cell 0 (.string ⟨fnm.toArray⟩) rfl
      go_wp2_with fail
      refine (disk_read d m cap F ⟨fnm.toArray⟩ w3 HD3.out htot).mono ?_
      rintro e w4 hp
      obtain ⟨ra, rc, rfl, hb4, hro⟩ := HRD.out _ _ _ hp
      have HRO := hid hro
      have HT4 := hid (HT.out.below hb4)
      have HD4 := hid (HD3.out.below hb4)
      have HOV4 := hid (HOV3.out.below hb4)
      have HB4 := hid (HB3.out.trans (hb4.mono hs3))
      have hs4 := Nat.le_trans hs3 hb4.size
      have hcn4 := (hb4.cell (p := ⟨nb, no + i, none⟩) (lt_of_cell hcn3)).trans hcn3
      clear hp hro hb4 HT HD3 HOV3 t0 hcn3
      have t0 := HT4.out.cell 0 (.string ⟨fnm.toArray⟩) rfl
      go_wp2_with fail
      refine (disk_safe d m cap F ⟨fnm.toArray⟩ w4 HD4.out).mono ?_
      rintro e w5 hp
      obtain ⟨rfl, hb5⟩ := HSF.out _ _ _ hp
      have HRO5 := hid (owns_below HRO.out hb5)
      have HT5 := hid (HT4.out.below hb5)
      have HOV5 := hid (HOV4.out.below hb5)
      have HB5 := hid (HB4.out.trans (hb5.mono hs4))
      have hs5 := Nat.le_trans hs4 hb5.size
      have hcn5 := (hb5.cell (p := ⟨nb, no + i, none⟩) (lt_of_cell hcn4)).trans hcn4
      clear hp hb5 HT4 HD4 HOV4 t0 hcn4 HRO HB3 HB4
      have t0 := HT5.out.cell 0 (.string ⟨fnm.toArray⟩) rfl
      have t1 := HT5.out.cell 1 (.slice va fbb.length vc) rfl
      have t2 := HT5.out.cell 2 (.int .i64 (fsf : Nat)) rfl
      have hsm : ∀ k, Calls Try.prog 13 #[.slice ra fbb.length rc, .slice va fbb.length vc] (w5.drewN k) fun e w' => e = .returned (.bool true) ∧ w' = w5.drewN k := fun k =>
        (ref_same _ _ fbb fbb (w5.drewN k) ((owns_bytes HRO5.out).below (below_drewN' k)) (HOV5.out.below (below_drewN' k))).mono fun e w' h => ⟨by rw [h.1, beq_self_eq_true], h.2.symm⟩
      have HSM := hid hsm
      have hn1 : (fnm != fnm) = false := by simp
      have hn2 : (fsf != fsf) = false := by simp
      have hn3 : ((fsf : Int) != (fsf : Int)) = false := by simp
      clear hsm
      go_upto_region 9 with fail
      go_quiet ((go_at_call 13; exact Calls.quiet_of_same (HSM.out _)))
      have hq := below_drewN' (B := w5.heap.size) (w := w5) nq
      have HRO6 := hid (owns_below HRO5.out hq)
      have HB6 := hid (HB5.out.trans (hq.mono hs5))
      have hs6 := Nat.le_trans hs5 hq.size
      have hb36 : w2.heap.size ≤ w3.heap.size := hs3
      clear hq t0 t1 t2 hcn5 HSM HRO5 HT5 HOV5 HB5
      generalize w5.drewN nq = w6 at *
      go_wp2_with fail
      generalize hwr2 : wr = wp at *
      clear hwr2
      go_loopw [90] (fun s wz => ∃ (k : Nat) (xs : List UInt8), s = .int .i64 k ∧ k ≤ fbb.length ∧ xs.length = fbb.length ∧ Hid (wz.ownsRow w3.heap.size 5 1 (.slice ra fbb.length rc) fbb.length (xs.map byt)) ∧ Hid (Below w2.heap.size w2 wz)) (fun s _ => fbb.length - (intOf s).toNat)
      case atStart => exact ⟨0, fbb, rfl, Nat.zero_le _, rfl, HRO6.out, HB6.out⟩
      case round =>
        clear HRO6 HB6
        obtain ⟨k, xs, rfl, hk, hxs, HO, HB⟩ := hrel
        by_cases hltk : k < fbb.length
        · obtain ⟨g, hga, hg, -⟩ := own_some HO.out (by omega)
          subst hga
          have hcell : wr.cell? ⟨g, k, none⟩ = some (byt xs[k]) := by
            rw [HO.out.cellAt k (by omega)]; simp [show k < xs.length by omega]
          have hfr := HO.out.frozenAt k
          have hx := not_u8 xs[k]
          have hst := fun u => HO.out.stored k u
          generalize UInt8.ofNat (255 - xs[k].toNat) = y at hx
          generalize xs[k] = x at hcell hx
          have hx2 : bits .xor .u8 (if IntKind.u8.signed = true then -1 else IntKind.u8.max) (x.toNat : Int) = (y.toNat : Int) := by rw [if_neg (by decide)]; exact hx
          have HST := hid (hst (byt y))
          clear hst
          have HO2 : Hid ((wr.setCell ⟨g, k, none⟩ (byt y)).ownsRow w3.heap.size 5 1 (.slice (some ⟨g, 0, none⟩) fbb.length rc) fbb.length ((xs.set k y).map byt)) := by
            show World.ownsRow _ _ _ _ _ _ _
            rw [List.map_set]; exact HST.out.1
          have HB2' : Hid (Below w2.heap.size w2 (wr.setCell ⟨g, k, none⟩ (byt y))) := HB.out.trans ((KeptS.set (S := fun q => q = g) wr ⟨g, k, none⟩ (byt y) rfl).below (fun q e => by omega) HB.out.size)
          clear HO HB HST
          go_wp2_with fail
          go_roundw
          case rel => exact ⟨k + 1, xs.set k y, by go_num, by omega, by simpa using hxs, HO2.out, HB2'.out⟩
          case measure => simp [intOf]; omega
        · go_wp2_with fail
          go_roundw
          case rel => exact ⟨i + 1, by go_num, by omega, HB.out⟩
          case measure => simp [intOf]; omega
    · go_wp2_with fail
      go_ret
      exact ⟨rfl, by rw [HWO.out]; exact HB2.out.trans (HBz.out.mono hs2)⟩
end Go.Proofs.Ytibhkkfbhbnmeaa
