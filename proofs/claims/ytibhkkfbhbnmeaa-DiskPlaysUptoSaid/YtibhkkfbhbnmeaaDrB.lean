/-
  DiskPlays: the walk.
-/
import Derived.Test.YtibhkkfbhbnmeaaDrA
import Derived.Test.YtibhkkfbhbnmeaaCopyI
import Derived.Deep.RegionHeld3
namespace Go.Proofs.Ytibhkkfbhbnmeaa
open Go.RowKit
set_option maxRecDepth 20000
set_option linter.unusedVariables false

theorem Jn.keptS {S : Nat → Prop} {B : Nat} {w wr w' : World} {d m xd : Nat} {cap : Int} {F : List Fl} {lv : Value} {L : List Fr} (h : Jn B w wr d m xd cap F lv L) (hk : KeptS S wr w') (h1 : ∀ k, (k = d ∨ TabHas m F k) → ¬ S k) (h2 : ∀ k, RHas xd lv L k → ¬ S k) (h3 : ∀ k, S k → B ≤ k) : Jn B w w' d m xd cap F lv L :=
  ⟨h.dk.keptS hk h1, h.rf.keptS hk h2, h.dj, h.hb, h.bel.trans (hk.below h3 h.sz), Nat.le_trans h.sz hk.size⟩
theorem Good.synIf {cap : Int} {F : List Fl} {ns : List (List UInt8)} {c : Int} (h : Good cap (abs F)) : Good cap (if c = 0 then synA (abs F) ns else abs F) := by
  split
  · exact h.syn _
  · exact h
theorem Good.remIf {cap : Int} {F : List Fl} {ns : List (List UInt8)} {c : Int} (h : Good cap (abs F)) : Good cap (if c = 0 then remA (abs F) ns else abs F) := by
  split
  · exact h.rem _
  · exact h
theorem Good.fr {cap : Int} {F : List Fl} {L : List Fr} (h : Good cap (abs F)) (r : Rel L (abs F)) : ∀ x ∈ L, x.safe ≤ x.b.length := fun x hx => h.sf _ (r.1.mem_iff.1 (List.mem_map.2 ⟨x, hx, rfl⟩))
theorem renE_rnE {F : List Fl} {L : List Fr} (h : Rel L (abs F)) (a b : List UInt8) : renE F a b = rnE L a b := by
  unfold renE rnE
  rw [file_any, h.any]
  split
  · simp only [decide_eq_true_eq]
  · rfl

theorem app_pair {w3 w4 w5 : World} {d m xd op s2 : Nat} {F F4 : List Fl} {lv lv5 v : Value} {L L5 : List Fr} {l : List UInt8} (hlt : (∀ k, (k = d ∨ TabHas m F k) → k < op) ∧ ∀ k, RHas xd lv L k → k < op) (hop : op ≤ s2) (ho : w3.ownsRow s2 5 1 v l.length (l.map byt)) (hm4 : Moved w3.drew w4 m F F4) (hm5 : RMoved w4 w5 xd lv L lv5 L5) :
    w5.ownsRow s2 5 1 v l.length (l.map byt) ∧ ∀ g, v.ownBlock = some g → ¬ (g = d ∨ TabHas m F4 g) ∧ ¬ RHas xd lv5 L5 g ∧ s2 ≤ g := by
  have hb := owns_below ho (below_drewN' (B := w3.heap.size) (w := w3) 1)
  have h1 := own_keptS hb hm4.2 (fun g e hh => by have := (own_lt ho g e).1; have := hlt.1 g (.inr hh); omega)
  have h2 := own_keptS h1 hm5.2 (fun g e hh => by have := (own_lt ho g e).1; have := hlt.2 g hh; omega)
  refine ⟨h2, fun g e => ?_⟩
  obtain ⟨g1, g2⟩ := own_lt ho g e
  have hs : w3.heap.size ≤ w4.heap.size := hm4.2.size
  refine ⟨fun hh => ?_, fun hh => ?_, g1⟩
  · rcases hh with rfl | hh
    · have := hlt.1 _ (.inl rfl); omega
    · rcases hm4.1 g hh with hh | hh
      · have := hlt.1 g (.inr hh); omega
      · have : w3.heap.size ≤ g := hh
        omega
  · rcases hm5.1 g hh with hh | hh
    · have := hlt.2 g hh; omega
    · omega
theorem Good.perm {cap : Int} {A X : List Ab} (h : Good cap X) (hp : A.Perm X) : Good cap A :=
  ⟨(hp.map _).nodup_iff.2 h.nd, by have : sumA A = sumA X := by unfold sumA; exact (hp.map _).sum_nat
                                   rw [this]; exact h.tot, fun a ha => h.nm a (hp.mem_iff.1 ha), fun a ha => h.sf a (hp.mem_iff.1 ha)⟩

/-- What the loop of DiskPlays holds. -/
def Pl (B : Nat) (w wx : World) (xd : Nat) (cap : Int) (s5 : Value) (j : Nat) : Prop :=
  ∃ (d m : Nat) (F : List Fl) (lv : Value) (L : List Fr), s5 = .pointer (some ⟨d, 0, none⟩) ∧ F.length ≤ j ∧ Jn B w wx d m xd cap F lv L ∧ Rel L (abs F) ∧ Good cap (abs F)

set_option maxHeartbeats 8000000 in
theorem plays_walk (cap : Int) (a : Option Addr) (c : Nat) (os : List Oq) (w : World) (hr : RowAt w a (os.flatMap oqCells)) (ho : ∀ o ∈ os, OqAt w o) (hs : ∀ o ∈ os, o.dl.length ≤ 1048576 ∧ o.ns.length ≤ 1048576 ∧ o.cuts.length ≤ 1048576 ∧ o.a.length ≤ 1048576 ∧ o.b.length ≤ 1048576 ∧ ∀ s ∈ o.ns, s.length ≤ 1048576) (hm : os.length ≤ 1048576) :
    Calls Try.prog 5 #[.int .i64 cap, .slice a os.length c] w fun e w' => e = .returned (.bool true) ∧ Below w.heap.size w w' := by
  have HR := hid hr
  have HO := hid ho
  have HS := hid hs
  clear hr ho hs
  go_enter Try.func5, Try.ntmps5
  cases hn : newOk cap with
  | false =>
    have hc : cap < 0 ∨ 1073741824 < cap := by
      unfold newOk at hn
      simp only [Bool.and_eq_false_iff, decide_eq_false_iff_not] at hn
      omega
    go_wp2_with fail
    refine (disk_newE cap w hn).mono ?_
    rintro e w1 ⟨rfl, rfl⟩
    clear hn
    rcases hc with hc | hc
    · go_wp2_with fail
      refine (awake03 _).mono ?_
      rintro e w5 ⟨rfl, hb⟩
      have HBE := hid hb
      clear hb
      go_wp2_with fail
      go_ret
      exact ⟨rfl, HBE.out⟩
    · have hc2 : ¬ cap < 0 := by omega
      go_wp2_with fail
      refine (awake03 _).mono ?_
      rintro e w5 ⟨rfl, hb⟩
      have HBE := hid hb
      clear hb
      go_wp2_with fail
      go_ret
      exact ⟨rfl, HBE.out⟩
  | true =>
    have hc : 0 ≤ cap ∧ cap ≤ 1073741824 := by
      unfold newOk at hn
      simpa only [Bool.and_eq_true, decide_eq_true_eq] using hn
    obtain ⟨hc1, hc2⟩ := hc
    go_wp2_with fail
    refine (disk_new cap w hn).mono ?_
    rintro e w1 ⟨d, m, rfl, hd, hb, hd1, hm1⟩
    clear hn
    have hbn := below_new (w := w1) (.cells #[.int .i64 cap, .slice none 0 0] 30)
    have HJ : Hid (Jn w.heap.size w (w1.alloc (.cells #[.int .i64 cap, .slice none 0 0] 30)) d m w1.heap.size cap [] (.slice none 0 0) []) := by
      have hk : ∀ k, (k = d ∨ TabHas m [] k) → w.heap.size ≤ k ∧ k < w1.heap.size := fun k e => by
        refine ⟨?_, hd.lt k e⟩
        rcases e with rfl | rfl | ⟨x, hx, -⟩
        · exact hd1
        · exact hm1
        · cases hx
      refine ⟨hd.below hbn, ⟨ObjAt.new _ _ _, ⟨rfl, .inl ⟨rfl, rfl⟩⟩, by simp, hb.size⟩, fun k e hr => ?_, fun k e => (hk k e).1, hb.trans (hbn.mono hb.size), Nat.le_trans hb.size hbn.size⟩
      rcases hr with rfl | e2 | ⟨x, hx, -⟩
      · exact absurd (hk _ e).2 (Nat.lt_irrefl _)
      · cases e2
      · cases hx
    have HPL : Hid (Pl w.heap.size w (w1.alloc (.cells #[.int .i64 cap, .slice none 0 0] 30)) w1.heap.size cap (.pointer (some ⟨d, 0, none⟩)) 0) :=
      ⟨d, m, [], _, [], rfl, Nat.le_refl _, HJ.out, ⟨List.Perm.refl _, List.Pairwise.nil⟩, Good.nil hc1⟩
    clear hbn hd hb HJ
    go_wp2_with fail
    generalize w1.alloc (.cells #[.int .i64 cap, .slice none 0 0] 30) = w1' at *
    generalize w1.heap.size = xd at *
    go_loopw [5, 44] (fun s5 s44 wr => ∃ j : Nat, s44 = .int .i64 j ∧ j ≤ os.length ∧ Hid (Pl w.heap.size w wr xd cap s5 j)) (fun _ s44 _ => os.length - (intOf s44).toNat)
    case atStart => exact ⟨0, rfl, Nat.zero_le _, HPL.out⟩
    case round =>
      clear HPL
      obtain ⟨j, rfl, hj, HPL⟩ := hrel
      obtain ⟨d, m, F, lv, L, rfl, hfl, hjn, hrel, hgood⟩ := HPL.out
      have HJ := hid hjn
      have HRL := hid hrel
      have HG := hid hgood
      have hsz := hjn.sz
      clear HPL hjn hrel hgood
      by_cases hlt : j < os.length
      · have HRw := hid (HR.out.below HJ.out.bel)
        obtain ⟨b, o, rfl, hcell⟩ := row_oq HRw.out hlt
        have HOw := hid ((HO.out _ (List.getElem_mem hlt)).below HJ.out.bel)
        have HOO := hid (HO.out _ (List.getElem_mem hlt))
        have HSw := hid (HS.out _ (List.getElem_mem hlt))
        have hk0 := hcell 0 _ (by decide) rfl
        have hk1 := hcell 1 _ (by decide) rfl
        have hk2 := hcell 2 _ (by decide) rfl
        have hk3 := hcell 3 _ (by decide) rfl
        have hk4 := hcell 4 _ (by decide) rfl
        have hk5 := hcell 5 _ (by decide) rfl
        clear hcell
        rw [Nat.add_zero] at hk0
        generalize os[j] = q at *
        obtain ⟨da, dc, hde, -, -, hdc1, hdc2⟩ := id HOw.out.data
        have HDE := hid hde
        rw [hde] at hk3
        clear hde
        go_upto_region 10 with fail
        have hbn := below_new (w := wr) (.cells #[.int .i64 q.kind, .string ⟨q.a.toArray⟩, .string ⟨q.b.toArray⟩, .slice da q.dl.length dc, .slice q.na q.ns.length q.nc, .slice q.ca q.cuts.length q.cc] 48)
        have HX := hid (ObjAt.new wr 48 #[.int .i64 q.kind, .string ⟨q.a.toArray⟩, .string ⟨q.b.toArray⟩, .slice da q.dl.length dc, .slice q.na q.ns.length q.nc, .slice q.ca q.cuts.length q.cc])
        have HJ2 := hid (HJ.out.below hbn)
        have HO2 := hid (HOw.out.below hbn)
        have HLT : Hid ((∀ k, (k = d ∨ TabHas m F k) → k < wr.heap.size) ∧ ∀ k, RHas xd lv L k → k < wr.heap.size) := ⟨HJ.out.dk.lt, fun k e => (HJ.out.rf.lt k e).2⟩
        clear hk0 hk1 hk2 hk3 hk4 hk5 hbn HJ HOw HRw
        generalize wr.alloc (.cells #[.int .i64 q.kind, .string ⟨q.a.toArray⟩, .string ⟨q.b.toArray⟩, .slice da q.dl.length dc, .slice q.na q.ns.length q.nc, .slice q.ca q.cuts.length q.cc] 48) = W2 at *
        generalize wr.heap.size = op at *
        have e0 := HX.out.cell 0 (.int .i64 q.kind) rfl
        have hsz2 := HJ2.out.sz
        go_upto_block 2 with fail
        clear e0
        go_cut [5, 10, 11, 12] from 50 to 141 (fun s5 s10 s11 s12 wx => Hid (Pl w.heap.size w wx xd cap s5 (j + 1)))
        case first =>
          have htot : Hid ((total F : Int) ≤ cap) := by
            show (total F : Int) ≤ cap
            rw [total_abs]; exact HG.out.tot
          have hln : L.length ≤ 1048576 := by rw [HRL.out.flen]; omega
          have hsr : sumR L ≤ 1073741824 := by rw [← sum_total HRL.out]; have := htot.out; omega
          have HOFF : Hid (∀ k, TabHas m F k → k < op) := fun k e => HLT.out.1 k (.inr e)
          by_cases k1 : q.kind = 1
          · have b1 : (q.kind == 1) = true := by rw [k1]; rfl
            clear k1
            have hl1 : q.dl.length ≤ 1048576 := HSw.out.1
            have hna : q.a.length ≤ 1048576 := HSw.out.2.2.2.1
            have HDA : Hid (IsBytes W2 (.slice da q.dl.length dc) q.dl) := by
              have := HO2.out.data
              rw [HDE.out] at this
              exact this
            have e3 := HX.out.cell 3 (.slice da q.dl.length dc) rfl
            go_wp2_with fail
            refine (ref_copy _ q.dl W2 HDA.out (by omega)).mono ?_
            rintro e w3 ⟨v, rfl, hov, hb⟩
            obtain ⟨ia, ic, rfl, -, -⟩ := owns_row hov
            have HOV := hid hov
            have HJ3 := hid (HJ2.out.below hb)
            have HX3 := hid (HX.out.below hb)
            have HDA3 := hid (HDA.out.below hb)
            have HXL : Hid (op < W2.heap.size) := HX.out.lt
            have hs23 := hb.size
            clear hov hb e3 HJ2 HX HDA
            obtain ⟨code, hcode⟩ : ∃ k, k = apE L cap q.a q.dl := ⟨_, rfl⟩
            have HK2 := hid hcode
            have HK1 : Hid (appE F cap (bl ⟨q.a.toArray⟩) q.dl = code) := by show appE F cap q.a q.dl = code; rw [appE_apE HRL.out, hcode]
            have hcc : (code != code) = false := by simp
            clear hcode
            have e1 := HX3.out.cell 1 (.string ⟨q.a.toArray⟩) rfl
            have e3 := HX3.out.cell 3 (.slice da q.dl.length dc) rfl
            go_upto_region 13 with fail
            go_cut [66] from 55 to 66 (fun s66 wx => s66 = .bool false ∧ ∃ (F4 : List Fl) (lv5 : Value) (L5 : List Fr), F4.length ≤ j + 1 ∧ Hid (Jn w.heap.size w wx d m xd cap F4 lv5 L5) ∧ Hid (Rel L5 (abs F4)) ∧ Hid (Good cap (abs F4)) ∧ Hid (wx.ownsRow W2.heap.size 5 1 (.slice ia q.dl.length ic) q.dl.length (q.dl.map byt)) ∧ Hid (∀ g, (Value.slice ia q.dl.length ic).ownBlock = some g → ¬ (g = d ∨ TabHas m F4 g) ∧ ¬ RHas xd lv5 L5 g ∧ W2.heap.size ≤ g))
            case first =>
              go_region_held3 (fun w' => w'.cell? ⟨op, 1, none⟩ = some (.string ⟨q.a.toArray⟩) ∧ w'.cell? ⟨op, 3, none⟩ = some (.slice da q.dl.length dc))
                (first | exact ⟨e1'', e3''⟩ | exact ⟨e1', e3'⟩ | exact ⟨e1, e3⟩ | go_keep)
                (first
                  | ((go_at_call 7; refine (disk_append d m cap F ⟨q.a.toArray⟩ _ q.dl _ (HJ3.out.dk.below (below_drewN' 1)) ((owns_bytes HOV.out).below (below_drewN' 1)) (fun k e hh => by have h1 := (own_lt HOV.out k e).1; have h2 := HOFF.out k hh; have h3 := HXL.out; omega) htot.out hc2 (by omega)).mono ?_; rintro e w4 ⟨rfl, F4, hd4, ha4, hm4⟩; rw [HK1.out] at ha4 ⊢; have HJ4 := hid ((HJ3.out.below (below_drewN' 1)).prog hd4 hm4); have HX4 := hid ((HX3.out.below (below_drewN' 1)).keptS hm4.2 (fun hh => Nat.lt_irrefl _ (HOFF.out _ hh))); have HM4 := hid hm4; have HA4 := hid ha4; have e1' := HX4.out.cell 1 (.string ⟨q.a.toArray⟩) rfl; have e3' := HX4.out.cell 3 (.slice da q.dl.length dc) rfl; clear hd4 ha4 hm4))
                  | ((go_at_call 8; refine (refd_append xd _ cap lv L q.a q.dl _ _ HJ4.out.rf hln (by have := (HOO.out.data).below HJ4.out.bel; rw [HDE.out] at this; exact this) (by omega) hsr hc2 hna).mono ?_; rintro e w5 ⟨rfl, lv5, L5, hd5, hr5, hm5⟩; rw [← HK2.out] at hr5 ⊢; have HJ5 := hid (HJ4.out.doc hd5 hm5); have HX5 := hid (HX4.out.keptS hm5.2 (fun hh => Nat.lt_irrefl _ (HLT.out.2 _ hh))); have e1'' := HX5.out.cell 1 (.string ⟨q.a.toArray⟩) rfl; have e3'' := HX5.out.cell 3 (.slice da q.dl.length dc) rfl; have HM5 := hid hm5; have HR5 := hid hr5; clear hd5 hr5 hm5)))
              all_goals
                have HAP := hid (app_pair HLT.out (Nat.le_of_lt HXL.out) HOV.out HM4.out HM5.out)
                have HRF : Hid (Rel L5 (abs F4)) := by
                  show Rel L5 (abs F4)
                  rw [HA4.out]; exact HR5.out _ HRL.out
                have HGF : Hid (Good cap (abs F4)) := by
                  show Good _ _
                  have := HG.out.appIf (F := F) (nm := q.a) (l := q.dl)
                  rw [show appE F cap q.a q.dl = code from HK1.out] at this
                  rw [HA4.out]; exact this
                have hflen : F4.length ≤ j + 1 := by
                  have e1 := len_abs HA4.out
                  rw [e1]
                  have e2 : (abs F).length = F.length := by unfold abs; simp
                  split
                  · have := appA_len (abs F) q.a q.dl
                    have h3 : (appA (abs F) (bl ⟨q.a.toArray⟩) q.dl).length ≤ (abs F).length + 1 := this
                    omega
                  · omega
                clear e1' e3' e1'' e3'' HX5 HJ4 HX4 HM4 HA4 HM5 HR5 e1 e3
                go_wp2_with fail
                go_meet
                case rel => exact ⟨rfl, F4, lv5, L5, hflen, HJ5.out, HRF.out, HGF.out, HAP.out.1, HAP.out.2⟩
            case rest =>
              obtain ⟨rfl, F4, lv5, L5, hf4, HJ5, HR5, HG5, HO5, HAP⟩ := hcut
              clear HJ3 HX3 HDA3 HOV HRL HG htot hsr HK1 HK2 hcc e1 e3
              have hs25 : w.heap.size ≤ W2.heap.size := hsz2
              go_wp2_with fail
              generalize hwr2 : wr = wp at *
              clear hwr2
              go_loopw [11, 69] (fun s11 s69 wz => ∃ (k : Nat) (xs : List UInt8), s69 = .int .i64 k ∧ k ≤ q.dl.length ∧ xs.length = q.dl.length ∧ Hid (wz.ownsRow W2.heap.size 5 1 (.slice ia q.dl.length ic) q.dl.length (xs.map byt)) ∧ Hid (Jn w.heap.size w wz d m xd cap F4 lv5 L5)) (fun _ s69 _ => q.dl.length - (intOf s69).toNat)
              case atStart => exact ⟨0, q.dl, rfl, Nat.zero_le _, rfl, HO5.out, HJ5.out⟩
              case round =>
                clear HO5 HJ5
                obtain ⟨k, xs, rfl, hk, hxs, HO, HJz⟩ := hrel
                by_cases hltk : k < q.dl.length
                · obtain ⟨g, hga, hg, -⟩ := own_some HO.out (by omega)
                  subst hga
                  have hcell : wr.cell? ⟨g, k, none⟩ = some (byt xs[k]) := by
                    rw [HO.out.cellAt k (by omega)]; simp [show k < xs.length by omega]
                  have hfr := HO.out.frozenAt k
                  have hx := not_u8 xs[k]
                  have hst := fun u => HO.out.stored k u
                  generalize UInt8.ofNat (255 - xs[k].toNat) = y at hx
                  generalize xs[k] = x at hcell hx
                  have hx2 : bits .xor .u8 (if IntKind.u8.signed = true then -1 else IntKind.u8.max) (x.toNat : Int) = (y.toNat : Int) := by rw [if_neg (by decide)]; exact hx
                  have HST := hid (hst (byt y))
                  clear hst
                  obtain ⟨ap1, ap2, ap3⟩ := HAP.out g rfl
                  have HO2' : Hid ((wr.setCell ⟨g, k, none⟩ (byt y)).ownsRow W2.heap.size 5 1 (.slice (some ⟨g, 0, none⟩) q.dl.length ic) q.dl.length ((xs.set k y).map byt)) := by
                    show World.ownsRow _ _ _ _ _ _ _
                    rw [List.map_set]; exact HST.out.1
                  have HJ6 := hid (HJz.out.keptS (KeptS.set (S := fun z => z = g) wr ⟨g, k, none⟩ (byt y) rfl) (fun z hz e => ap1 (by rw [← e]; exact hz)) (fun z hz e => ap2 (by rw [← e]; exact hz)) (fun z e => by omega))
                  clear HO HJz HST ap1 ap2
                  go_wp2_with fail
                  go_roundw
                  case rel => exact ⟨k + 1, xs.set k y, by go_num, by omega, by simpa using hxs, HO2'.out, HJ6.out⟩
                  case measure => simp [intOf]; omega
                · have HPF : Hid (Pl w.heap.size w wr xd cap (.pointer (some ⟨d, 0, none⟩)) (j + 1)) := ⟨d, m, F4, lv5, L5, rfl, hf4, HJz.out, HR5.out, HG5.out⟩
                  clear HO HJz
                  go_wp2_with fail
                  go_meet
                  case rel => exact HPF.out
          · by_cases k2 : q.kind = 2
            · have b1 : (q.kind == 1) = false := beq_eq_false_iff_ne.2 k1
              have b2 : (q.kind == 2) = true := by rw [k2]; rfl
              clear k1 k2
              obtain ⟨ss, hs1, hs2, hs3⟩ := names_bl q.ns
              have e4 := HX.out.cell 4 (.slice q.na q.ns.length q.nc) rfl
              have hl2 : q.ns.length ≤ 1048576 := HSw.out.2.1
              have hnl : ∀ s ∈ q.ns, s.length ≤ 1048576 := HSw.out.2.2.2.2.2
              have HNL := hid hnl
              have HNR : Hid (RowAt W2 q.na (ss.map Value.string)) := by
                show RowAt _ _ _
                rw [hs2]; exact HO2.out.names
              have HNN := hid HOO.out.names
              have HOF : Hid (∀ ad, q.na = some ad → q.ns ≠ [] → ad.block < w.heap.size) := fun ad e hne => HOO.out.names.lt (by simpa using hne) ad e
              obtain ⟨code, hcode⟩ : ∃ k, k = allR L q.ns := ⟨_, rfl⟩
              have HK2 := hid hcode
              have HK1 : Hid (findE F ss = code) := by show findE F ss = code; rw [findE_allR HRL.out, hs3, hcode]
              have HSS := hid hs3
              have hcc : (code != code) = false := by simp
              have HLS := hid hs1
              have hl2s : ss.length ≤ 1048576 := by omega
              clear hcode hs1 hs2 hs3 hnl
              rw [← HLS.out] at e4
              go_wp2_with fail
              go_region_held3 (fun w' => w'.cell? ⟨op, 4, none⟩ = some (.slice q.na ss.length q.nc))
                (first | exact e4'' | exact e4' | exact e4 | go_keep)
                (first
                  | ((go_at_call 15; refine (disk_sync d m cap F q.na ss q.nc _ (HJ2.out.dk.below (below_drewN' 1)) (HNR.out.below (below_drewN' 1)) hl2s).mono ?_; rintro e w4 ⟨rfl, F4, hd4, ha4, hm4⟩; rw [HK1.out] at ha4 ⊢; have HJ4 := hid ((HJ2.out.below (below_drewN' 1)).prog hd4 hm4); have HX4 := hid ((HX.out.below (below_drewN' 1)).keptS hm4.2 (fun hh => Nat.lt_irrefl _ (HOFF.out _ hh))); have HA4 := hid ha4; have e4' := HX4.out.cell 4 (.slice q.na q.ns.length q.nc) rfl; rw [← HLS.out] at e4'; clear hd4 ha4 hm4))
                  | ((go_at_call 21; rw [HLS.out]; refine (refd_sync xd _ cap lv L q.na q.ns q.nc _ HJ4.out.rf hln (HNN.out.below HJ4.out.bel) (by omega) HNL.out HOF.out hsr).mono ?_; rintro e w5 ⟨rfl, lv5, L5, hd5, hr5, hm5⟩; rw [← HK2.out] at hr5 ⊢; have HJ5 := hid (HJ4.out.doc hd5 hm5); have HX5 := hid (HX4.out.keptS hm5.2 (fun hh => Nat.lt_irrefl _ (HLT.out.2 _ hh))); have e4'' := HX5.out.cell 4 (.slice q.na q.ns.length q.nc) rfl; rw [← HLS.out] at e4''; have HR5 := hid hr5; clear hd5 hr5 hm5)))
              all_goals
                have HPF : Hid (Pl w.heap.size w w5 xd cap (.pointer (some ⟨d, 0, none⟩)) (j + 1)) := by
                  refine ⟨d, m, F4, lv5, L5, rfl, ?_, HJ5.out, ?_, ?_⟩
                  · have e1 := len_abs HA4.out
                    have e2 : (abs F).length = F.length := by unfold abs; simp
                    rw [e1]
                    split
                    · rw [synA_len]; omega
                    · omega
                  · rw [HA4.out, HSS.out]; exact HR5.out _ HRL.out
                  · rw [HA4.out]; exact HG.out.synIf
                clear e4' e4'' HX5 HJ4 HX4 HA4 HR5 HJ5 e4
                go_wp2_with fail
                go_meet
                case rel => exact HPF.out
            · by_cases k3 : q.kind = 3
              · have b1 : (q.kind == 1) = false := beq_eq_false_iff_ne.2 k1
                have b2 : (q.kind == 2) = false := beq_eq_false_iff_ne.2 k2
                have b3 : (q.kind == 3) = true := by rw [k3]; rfl
                clear k1 k2 k3
                have hna : q.a.length ≤ 1048576 := HSw.out.2.2.2.1
                have hnb : q.b.length ≤ 1048576 := HSw.out.2.2.2.2.1
                obtain ⟨code, hcode⟩ : ∃ k, k = rnE L q.a q.b := ⟨_, rfl⟩
                have HK2 := hid hcode
                have HK1 : Hid (renE F (bl ⟨q.a.toArray⟩) (bl ⟨q.b.toArray⟩) = code) := by show renE F q.a q.b = code; rw [renE_rnE HRL.out, hcode]
                have hcc : (code != code) = false := by simp
                clear hcode
                have e1 := HX.out.cell 1 (.string ⟨q.a.toArray⟩) rfl
                have e2 := HX.out.cell 2 (.string ⟨q.b.toArray⟩) rfl
                go_wp2_with fail
                go_region_held3 (fun w' => w'.cell? ⟨op, 1, none⟩ = some (.string ⟨q.a.toArray⟩) ∧ w'.cell? ⟨op, 2, none⟩ = some (.string ⟨q.b.toArray⟩))
                  (first | exact ⟨e1'', e2''⟩ | exact ⟨e1', e2'⟩ | exact ⟨e1, e2⟩ | go_keep)
                  (first
                    | ((go_at_call 16; refine (disk_rename d m cap F ⟨q.a.toArray⟩ ⟨q.b.toArray⟩ _ (HJ2.out.dk.below (below_drewN' 1))).mono ?_; rintro e w4 ⟨A4, ⟨rfl, F4, hd4, ha4, hm4⟩, hn1, hn2⟩; rw [HK1.out] at hn1 hn2 ⊢; have HJ4 := hid ((HJ2.out.below (below_drewN' 1)).prog hd4 hm4); have HX4 := hid ((HX.out.below (below_drewN' 1)).keptS hm4.2 (fun hh => Nat.lt_irrefl _ (HOFF.out _ hh))); have HA4 := hid ha4; have HN1 := hid hn1; have HN2 := hid hn2; have e1' := HX4.out.cell 1 (.string ⟨q.a.toArray⟩) rfl; have e2' := HX4.out.cell 2 (.string ⟨q.b.toArray⟩) rfl; clear hd4 ha4 hm4 hn1 hn2))
                    | ((go_at_call 22; refine (refd_rename xd _ cap lv L q.a q.b _ HJ4.out.rf hln hna hnb).mono ?_; rintro e w5 ⟨rfl, lv5, L5, hd5, hm5, hs5, hr5⟩; rw [← HK2.out] at hr5 hs5 ⊢; have HJ5 := hid (HJ4.out.doc hd5 hm5); have HX5 := hid (HX4.out.keptS hm5.2 (fun hh => Nat.lt_irrefl _ (HLT.out.2 _ hh))); have e1'' := HX5.out.cell 1 (.string ⟨q.a.toArray⟩) rfl; have e2'' := HX5.out.cell 2 (.string ⟨q.b.toArray⟩) rfl; have HR5 := hid hr5; have HS5 := hid hs5; clear hd5 hr5 hm5 hs5)))
                all_goals
                  have HPF : Hid (Pl w.heap.size w w5 xd cap (.pointer (some ⟨d, 0, none⟩)) (j + 1)) := by
                    have hE := HK1.out
                    refine ⟨d, m, F4, lv5, L5, rfl, ?_, HJ5.out, ?_, ?_⟩
                    · have e1 := len_abs HA4.out
                      have e2 : (abs F).length = F.length := by unfold abs; simp
                      have e3 := ren_len (F := F) (A' := A4) (s := bl ⟨q.a.toArray⟩) (t := bl ⟨q.b.toArray⟩) (fun h => HN1.out (by rw [← hE]; exact h)) (fun x h hx => HN2.out x (by rw [← hE]; exact h) hx)
                      omega
                    · rw [HA4.out]
                      by_cases hz : code = 0
                      · obtain ⟨i, hi, hnm, hrel⟩ := HR5.out hz
                        have hfs : ∃ x, fileOf F q.a = some x := by
                          have h1 : q.a ∈ F.map Fl.nm := by
                            rw [names_abs]
                            exact List.mem_map.2 ⟨_, HRL.out.1.mem_iff.1 (List.mem_map.2 ⟨L[i], List.getElem_mem hi, rfl⟩), hnm⟩
                          exact file_some h1
                        obtain ⟨x, hx⟩ := hfs
                        rw [HN2.out x hz hx]
                        obtain ⟨hxm, hxn⟩ := fileOf_mem hx
                        obtain ⟨h1, h2⟩ := file_same HRL.out HG.out hxm hi (by rw [hnm, hxn])
                        rw [← h1, ← h2]
                        exact hrel _ HRL.out
                      · rw [HN1.out hz, HS5.out hz]; exact HRL.out
                    · rw [HA4.out]
                      exact good_ren (F := F) (A' := A4) (s := bl ⟨q.a.toArray⟩) (t := bl ⟨q.b.toArray⟩) HG.out (fun h => HN1.out (by rw [← hE]; exact h)) (fun x h hx => HN2.out x (by rw [← hE]; exact h) hx)
                  clear e1' e2' e1'' e2'' HX5 HJ4 HX4 HA4 HN1 HN2 HR5 HS5 HJ5 e1 e2
                  go_wp2_with fail
                  go_meet
                  case rel => exact HPF.out
              · by_cases k4 : q.kind = 4
                · have b1 : (q.kind == 1) = false := beq_eq_false_iff_ne.2 k1
                  have b2 : (q.kind == 2) = false := beq_eq_false_iff_ne.2 k2
                  have b3 : (q.kind == 3) = false := beq_eq_false_iff_ne.2 k3
                  have b4 : (q.kind == 4) = true := by rw [k4]; rfl
                  clear k1 k2 k3 k4
                  obtain ⟨ss, hs1, hs2, hs3⟩ := names_bl q.ns
                  have e4 := HX.out.cell 4 (.slice q.na q.ns.length q.nc) rfl
                  have hl2 : q.ns.length ≤ 1048576 := HSw.out.2.1
                  have hnl : ∀ s ∈ q.ns, s.length ≤ 1048576 := HSw.out.2.2.2.2.2
                  have HNL := hid hnl
                  have HNR : Hid (RowAt W2 q.na (ss.map Value.string)) := by
                    show RowAt _ _ _
                    rw [hs2]; exact HO2.out.names
                  have HNN := hid HOO.out.names
                  have HOF : Hid (∀ ad, q.na = some ad → q.ns ≠ [] → ad.block < w.heap.size) := fun ad e hne => HOO.out.names.lt (by simpa using hne) ad e
                  obtain ⟨code, hcode⟩ : ∃ k, k = allR L q.ns := ⟨_, rfl⟩
                  have HK2 := hid hcode
                  have HK1 : Hid (findE F ss = code) := by show findE F ss = code; rw [findE_allR HRL.out, hs3, hcode]
                  have HSS := hid hs3
                  have hcc : (code != code) = false := by simp
                  have HLS := hid hs1
                  have hl2s : ss.length ≤ 1048576 := by omega
                  clear hcode hs1 hs2 hs3 hnl
                  rw [← HLS.out] at e4
                  go_wp2_with fail
                  go_region_held3 (fun w' => w'.cell? ⟨op, 4, none⟩ = some (.slice q.na ss.length q.nc))
                    (first | exact e4'' | exact e4' | exact e4 | go_keep)
                    (first
                      | ((go_at_call 17; refine (disk_remove d m cap F q.na ss q.nc _ (HJ2.out.dk.below (below_drewN' 1)) (HNR.out.below (below_drewN' 1)) hl2s (fun ad e hne hh => by have h1 := HJ2.out.hb _ (.inr hh); have h2 := HOF.out ad e (by intro h0; apply hne; apply List.eq_nil_of_length_eq_zero; rw [HLS.out, h0]; rfl); omega)).mono ?_; rintro e w4 ⟨rfl, F4, hd4, ha4, hm4⟩; rw [HK1.out] at ha4 ⊢; have HJ4 := hid ((HJ2.out.below (below_drewN' 1)).prog hd4 hm4); have HX4 := hid ((HX.out.below (below_drewN' 1)).keptS hm4.2 (fun hh => Nat.lt_irrefl _ (HOFF.out _ hh))); have HA4 := hid ha4; have e4' := HX4.out.cell 4 (.slice q.na q.ns.length q.nc) rfl; rw [← HLS.out] at e4'; clear hd4 ha4 hm4))
                      | ((go_at_call 23; rw [HLS.out]; refine (refd_remove xd _ cap lv L q.na q.ns q.nc _ HJ4.out.rf hln (HNN.out.below HJ4.out.bel) (by omega) HNL.out (fun ad e hne => by have h1 := HOF.out ad e hne; have h2 := HJ4.out.rf.bx; omega)).mono ?_; rintro e w5 ⟨rfl, lv5, L5, hd5, hr5, hm5⟩; rw [← HK2.out] at hr5 ⊢; have HJ5 := hid (HJ4.out.doc hd5 hm5); have HX5 := hid (HX4.out.keptS hm5.2 (fun hh => Nat.lt_irrefl _ (HLT.out.2 _ hh))); have e4'' := HX5.out.cell 4 (.slice q.na q.ns.length q.nc) rfl; rw [← HLS.out] at e4''; have HR5 := hid hr5; clear hd5 hr5 hm5)))
                  all_goals
                    have HPF : Hid (Pl w.heap.size w w5 xd cap (.pointer (some ⟨d, 0, none⟩)) (j + 1)) := by
                      refine ⟨d, m, F4, lv5, L5, rfl, ?_, HJ5.out, ?_, ?_⟩
                      · have e1 := len_abs HA4.out
                        have e2 : (abs F).length = F.length := by unfold abs; simp
                        rw [e1]
                        split
                        · have := remA_len (ss.map bl) (abs F); omega
                        · omega
                      · rw [HA4.out, HSS.out]; exact HR5.out _ HRL.out
                      · rw [HA4.out]; exact HG.out.remIf
                    clear e4' e4'' HX5 HJ4 HX4 HA4 HR5 HJ5 e4
                    go_wp2_with fail
                    go_meet
                    case rel => exact HPF.out
                · by_cases k5 : q.kind = 5
                  · have b1 : (q.kind == 1) = false := beq_eq_false_iff_ne.2 k1
                    have b2 : (q.kind == 2) = false := beq_eq_false_iff_ne.2 k2
                    have b3 : (q.kind == 3) = false := beq_eq_false_iff_ne.2 k3
                    have b4 : (q.kind == 4) = false := beq_eq_false_iff_ne.2 k4
                    have b5 : (q.kind == 5) = true := by rw [k5]; rfl
                    clear k1 k2 k3 k4 k5
                    have e5 := HX.out.cell 5 (.slice q.ca q.cuts.length q.cc) rfl
                    have hl3 : q.cuts.length ≤ 1048576 := HSw.out.2.2.1
                    go_wp2_with fail
                    refine (copy_ints q.ca q.cc q.cuts W2 HO2.out.cuts (by omega)).mono ?_
                    rintro e w3 ⟨v, rfl, hov, hb⟩
                    obtain ⟨ia, ic, rfl, hir, hi1, hi2⟩ := owns_row hov
                    have HIR := hid hir
                    have HOV := hid hov
                    have HJ3 := hid (HJ2.out.below hb)
                    have HX3 := hid (HX.out.below hb)
                    have HXL : Hid (op < W2.heap.size) := HX.out.lt
                    clear hov hb e5 HJ2 HX hir
                    go_wp2_with fail
                    refine (disk_crash d m cap F ia q.cuts ic w3 HJ3.out.dk HIR.out hi1 hi2 (fun x hx => HG.out.sf _ (mem_abs rfl hx)) (by have := htot.out; omega) (fun x hx => by have := (fname_short (HG.out.nm _ (mem_abs rfl hx))).2; have h2 : x.nm.length ≤ 40 := this; unfold maxLen; omega) (by omega) (fun hne ad e _ hh => by
                      have h1 := (own_lt HOV.out ad.block (by rw [e]; rfl)).1
                      have h2 := HOFF.out _ hh
                      have h3 := HXL.out
                      omega)).mono ?_
                    rintro e w4 ⟨rfl, F4, hd4, ha4, hm4⟩
                    have HJ4 := hid (HJ3.out.prog hd4 hm4)
                    have HX4 := hid (HX3.out.keptS hm4.2 (fun hh => Nat.lt_irrefl _ (HOFF.out _ hh)))
                    have HA4 := hid ha4
                    have e5 := HX4.out.cell 5 (.slice q.ca q.cuts.length q.cc) rfl
                    clear hd4 ha4 hm4 HJ3 HX3 HIR HOV
                    go_wp2_with fail
                    refine (refd_crash xd _ cap lv L q.ca q.cuts q.cc w4 HJ4.out.rf hln (HOO.out.cuts.below HJ4.out.bel) hl3 (fun ad e hne => HOO.out.cuts.lt (by simpa using hne) ad e) hsr (HG.out.fr HRL.out) HRL.out.nodup).mono ?_
                    rintro e w5 ⟨rfl, L5, hd5, hm5, hl5, hr5⟩
                    have HPF : Hid (Pl w.heap.size w w5 xd cap (.pointer (some ⟨d, 0, none⟩)) (j + 1)) := by
                      refine ⟨d, m, F4, lv, L5, rfl, ?_, HJ4.out.doc hd5 hm5, ?_, ?_⟩
                      · have e1 := len_abs HA4.out
                        have e2 : (abs F).length = F.length := by unfold abs; simp
                        rw [e1, crashA_len]; omega
                      · rw [HA4.out]; exact hr5 _ HRL.out
                      · rw [HA4.out]; exact HG.out.crash _
                    clear hd5 hm5 hr5 e5 HJ4 HX4 HA4
                    go_wp2_with fail
                    go_meet
                    case rel => exact HPF.out
                  · have b1 : (q.kind == 1) = false := beq_eq_false_iff_ne.2 k1
                    have b2 : (q.kind == 2) = false := beq_eq_false_iff_ne.2 k2
                    have b3 : (q.kind == 3) = false := beq_eq_false_iff_ne.2 k3
                    have b4 : (q.kind == 4) = false := beq_eq_false_iff_ne.2 k4
                    have b5 : (q.kind == 5) = false := beq_eq_false_iff_ne.2 k5
                    clear k1 k2 k3 k4 k5
                    by_cases k6 : q.kind = 6
                    · have b6 : (q.kind == 6) = true := by rw [k6]; rfl
                      clear k6
                      go_wp2_with fail
                      refine (disk_clone d m cap F W2 HJ2.out.dk (by have := htot.out; omega)).mono ?_
                      rintro e w3 ⟨d2, m2, G, rfl, hd3, hp3, hb3, hf3⟩
                      have HD3 := hid hd3
                      have HP3 := hid hp3
                      have HF3 := hid hf3
                      have HJ3 := hid (HJ2.out.below hb3)
                      have HXL : Hid (op < W2.heap.size) := HX.out.lt
                      have hs3 := hb3.size
                      clear hd3 hp3 hb3 hf3 HJ2 HX
                      have kc := fun (w : World) (C : Array Value) (n c : Nat) => Lib.run_convert_bytes_const (P := Try.prog) w 32 5 C n c Try.underlying32 Try.underlying5
                      go_wp2_with fail
                      have hbn := below_new (w := w3) (.cells #[.int .u8 122] 5 (1, 2))
                      refine (disk_append d m cap F _ _ [122] _ (HJ3.out.dk.below hbn) ⟨_, _, rfl, RowAt.new w3 #[.int .u8 122] 5 (1, 2), (fun e => by cases e), by decide, by decide⟩ (fun k e => by
                        cases e
                        intro hh
                        exact absurd (HJ3.out.dk.tab.lt _ hh) (Nat.lt_irrefl _)) htot.out hc2 (by decide)).mono ?_
                      rintro e w4 ⟨rfl, F4, hd4, ha4, hm4⟩
                      have HJ4 := hid ((HJ3.out.below hbn).prog hd4 hm4)
                      have HD4 := hid ((HD3.out.below hbn).keptS hm4.2 (fun k hk hh => by have h1 := HF3.out k hk; have h2 := HOFF.out k hh; have h3 := HXL.out; omega))
                      have HG4 : Hid (Good cap (abs F4)) := by
                        show Good _ _
                        rw [ha4]; exact HG.out.appIf
                      have hfl4 : F4.length ≤ 1048576 := by
                        have e1 := len_abs ha4
                        have e2 : (abs F).length = F.length := by unfold abs; simp
                        rw [e1]
                        split
                        · have := appA_len (abs F) (bl (ByteArray.mk #[122])) [122]
                          omega
                        · omega
                      have HN4 : Hid (∀ k, TabHas m F4 k → k < op ∨ w3.heap.size ≤ k) := fun k hk => by
                        rcases hm4.1 k hk with h | h
                        · exact .inl (HOFF.out k h)
                        · exact .inr (Nat.le_trans hbn.size h)
                      have ht4 : total F4 ≤ 1073741824 := by
                        have h1 : (total F4 : Int) ≤ cap := by rw [total_abs]; exact HG4.out.tot
                        omega
                      clear hd4 ha4 hm4 hbn kc HJ3
                      go_wp2_with fail
                      refine (disk_crash d m cap F4 none [] 0 w4 HJ4.out.dk (RowAt.nil _ _) (Nat.le_refl _) (Nat.zero_le _) (fun x hx => HG4.out.sf _ (mem_abs rfl hx)) ht4 (fun x hx => by have := (fname_short (HG4.out.nm _ (mem_abs rfl hx))).2; have h2 : x.nm.length ≤ 40 := this; unfold maxLen; omega) (by omega) (fun h => absurd rfl h)).mono ?_
                      rintro e w5 ⟨rfl, F5, hd5, ha5, hm5⟩
                      have HJ5 := hid (HJ4.out.prog hd5 hm5)
                      have HD5 := hid (HD4.out.keptS hm5.2 (fun k hk hh => by
                        have h1 := HF3.out k hk
                        have h2 := HD3.out.lt k hk
                        have h3 := HXL.out
                        rcases HN4.out k hh with h | h <;> omega))
                      have HPF : Hid (Pl w.heap.size w w5 xd cap (.pointer (some ⟨d2, 0, none⟩)) (j + 1)) := by
                        refine ⟨d2, m2, G, lv, L, rfl, ?_, ⟨HD5.out, HJ5.out.rf, fun k hk hr => ?_, fun k hk => ?_, HJ5.out.bel, HJ5.out.sz⟩, ⟨HRL.out.1.trans HP3.out.symm, HRL.out.2⟩, HG.out.perm HP3.out⟩
                        · have := HP3.out.length_eq
                          unfold abs at this
                          simp only [List.length_map] at this
                          omega
                        · have h1 := HF3.out k hk
                          have h2 := HLT.out.2 k hr
                          have h3 := HXL.out
                          omega
                        · have h1 := HF3.out k hk
                          omega
                      clear hd5 ha5 hm5 HJ4 HD4 HJ5 HD5 HD3
                      go_wp2_with fail
                      go_meet
                      case rel => exact HPF.out
                    · have b6 : (q.kind == 6) = false := beq_eq_false_iff_ne.2 k6
                      clear k6
                      have HPF : Hid (Pl w.heap.size w W2 xd cap (.pointer (some ⟨d, 0, none⟩)) (j + 1)) := ⟨d, m, F, lv, L, rfl, by omega, HJ2.out, HRL.out, HG.out⟩
                      go_wp2_with fail
                      go_meet
                      case rel => exact HPF.out
        case rest =>
          clear HJ2 HRL HG HO2 HX HLT
          obtain ⟨d', m', F', lv', L', rfl, hfl', hjn, hrel, hgood⟩ := hcut.out
          have HJ3 := hid hjn
          have HRL3 := hid hrel
          have HG3 := hid hgood
          clear hjn hrel hgood hcut
          go_wp2_with fail
          refine (alike_yes _ _ _ d' m' xd cap F' lv' L' HJ3.out HRL3.out HG3.out hc2 (by omega)).mono ?_
          rintro e w5 ⟨rfl, hb⟩
          have HP5 : Hid (Pl w.heap.size w w5 xd cap (.pointer (some ⟨d', 0, none⟩)) (j + 1)) := ⟨d', m', F', lv', L', rfl, hfl', HJ3.out.below hb, HRL3.out, HG3.out⟩
          clear hb HJ3 HRL3 HG3
          go_wp2_with fail
          go_roundw
          case rel => exact ⟨j + 1, by go_num, by omega, HP5⟩
          case measure => simp [intOf]; omega
      · go_wp2_with fail
        refine (awake03 _).mono ?_
        rintro e w9 ⟨rfl, hb⟩
        have HB9 := hid (HJ.out.below hb).bel
        clear hb HJ
        go_wp2_with fail
        go_ret
        exact ⟨rfl, HB9.out⟩
end Go.Proofs.Ytibhkkfbhbnmeaa
