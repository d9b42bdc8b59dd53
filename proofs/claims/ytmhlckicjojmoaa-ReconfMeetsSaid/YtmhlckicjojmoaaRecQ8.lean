/-
  The document's Quorum: its walk.
-/
import Derived.Test.YtmhlckicjojmoaaRecQ7
import Derived.OwnWalk
namespace Go.Proofs.Ytmhlckicjojmoaa
open Go.RowKit
set_option maxRecDepth 20000
set_option linter.unusedVariables false

theorem ref_far (a : Option Addr) (c : Nat) (lat : List Int) (r : Int) (w : World) (hr : RowAt w a (lat.map (Value.int .i64))) (h0 : 0 ≤ r) :
    Calls Try.prog 42 #[.slice a lat.length c, .int .i64 r] w fun e w' => e = .returned (.int .i64 (farI lat r)) ∧ w = w' := by
  obtain ⟨k, rfl⟩ : ∃ k : Nat, r = k := ⟨r.toNat, by omega⟩
  by_cases hk : k < lat.length
  · obtain ⟨b, o, rfl, hc⟩ := hr.at k (by simpa using hk)
    simp only [List.getElem_map] at hc
    have HF : Hid (farI lat k = lat[k]) := by
      show _ = _
      unfold farI
      rw [if_pos (by omega)]; simp [hk]
    clear hr
    generalize lat[k] = x at *
    have hki : (k : Int) < lat.length := by omega
    go_enter Try.func42, Try.ntmps42
    go_wp2_with fail
    go_ret
    exact ⟨by rw [HF.out]; rfl, rfl⟩
  · have HF : Hid (farI lat k = 0) := by
      show _ = _
      unfold farI
      rw [if_neg (by omega)]
    have hki : ¬ (k : Int) < lat.length := by omega
    clear hr
    go_enter Try.func42, Try.ntmps42
    go_wp2_with fail
    go_ret
    exact ⟨by rw [HF.out]; rfl, rfl⟩
theorem infoBool : (Try.prog.info? 4).map (fun i => (i.zero, i.size, i.bytes)) = some (some (.bool false), 1, 1) := by kernel_rfl

set_option maxHeartbeats 4000000 in
theorem refr_quorum (a a2 : Option Addr) (c c2 : Nat) (ms lat q : List Int) (me size : Int) (w : World) (hr1 : RowAt w a (ms.map (Value.int .i64))) (hr2 : RowAt w a2 (lat.map (Value.int .i64))) (hl : RightM ms) (hm : lat.length ≤ 4611686018427387904)
    (hok : QuoOk ms lat me size) (hq : QuoIs ms lat me q) :
    Calls Try.prog 25 #[.slice a ms.length c, .int .i64 me, .int .i64 size, .slice a2 lat.length c2] w fun e w' => ∃ v, e = .returned v ∧ IsInts w' v (quoL ms me q (size - 1).toNat) ∧ Below w.heap.size w w' := by
  obtain ⟨o1, o2, o3, o4⟩ := hok
  have h7 := hl.2.2
  have HR1 := hid hr1
  have HR2 := hid hr2
  have HL := hid hl
  have HQ := hid hq
  have hneg : ∀ x ∈ lat, ¬ x < 0 := fun x hx h => by
    have := List.any_eq_false.1 o4 x hx
    simp at this; omega
  have HNG := hid hneg
  have hme : me ∈ ms := (placeI_mem ms me).1 (of_decide_eq_true o1)
  obtain ⟨k, rfl⟩ : ∃ k : Nat, size = (k : Int) + 1 := ⟨(size - 1).toNat, by omega⟩
  obtain ⟨p, hp, hpI, hpe⟩ : ∃ (p : Nat) (hp : p < ms.length), placeI ms me = p ∧ ms[p] = me := by
    rcases placeI_cases ms me with ⟨h1, h2⟩ | ⟨p, hp, h1, h2⟩
    · exact absurd hme h2
    · exact ⟨p, hp, h1, h2⟩
  have hql : q.length + 1 = ms.length := by rw [hq.1.length_eq]; exact oth_len hl hme
  have HPE := hid hpe
  have HPI := hid hpI
  obtain ⟨i0, hi0, hz0, hs0, hy0⟩ := info_parts infoBool
  have hk1 : k < ms.length := by omega
  clear hr1 hr2 hl hq hneg hme o1 o4 hpe hpI
  go_enter Try.func25, Try.ntmps25
  go_wp2_with fail
  refine (refr_place a c ms me w HR1.out (by omega)).mono ?_
  rintro e w1 ⟨rfl, rfl⟩
  rw [HPI.out]
  have hs1 : ((k : Int) + 1 < 1) = False := propext ⟨fun h => by omega, False.elim⟩
  have hs2 : ((ms.length : Int) < (k : Int) + 1) = False := propext ⟨fun h => by omega, False.elim⟩
  have hs3 : ((p : Int) < 0) = False := propext ⟨fun h => by omega, False.elim⟩
  go_wp2_with fail
  clear hs1 hs2 hs3
  go_loop [9] (fun i => ∃ j : Nat, i = .int .i64 j ∧ j ≤ lat.length) (fun i => lat.length - (intOf i).toNat)
  case atStart => exact ⟨0, rfl, Nat.zero_le _⟩
  case round =>
    obtain ⟨j, rfl, hj⟩ := hrel
    by_cases hlt : j < lat.length
    · obtain ⟨b, o, rfl, hc⟩ := HR2.out.at j (by simpa using hlt)
      simp only [List.getElem_map] at hc
      have hnn := HNG.out lat[j] (List.getElem_mem hlt)
      clear HR2 HNG
      generalize lat[j] = x at *
      go_wp2_with fail
      go_round
      case rel => exact ⟨j + 1, by go_num, by omega⟩
      case measure => simp [intOf]; omega
    · obtain rfl : j = lat.length := by omega
      go_wp2_with (at_make; refine wpList_make_full _ rfl _ _ 65 rfl w.heap.size 4 i0 (.bool false) 1 Try.underlying65 hi0 hz0 hs0 _ _ _ _ ms.length rfl rfl rfl rfl (by rw [hy0]; omega) (by unfold maxLen; omega) (Nat.le_refl _) ?_; intro w1 ho hg; refine Stop.mk ?_)
      have hb1 := (Below.refl w.heap.size w).grown hg (Nat.le_refl _) (fun k hk => by cases hk)
      obtain ⟨cu0, hO0, hB0⟩ : ∃ cu, ObjAt w1 w.heap.size 4 cu ∧ Bools cu ms (fun _ => false) := by
        rcases ho.2 with ⟨e, _⟩ | ⟨g, cap, cur, e, _, hgg, _, _, hcs, ht⟩
        · simp at e
        simp only [Value.slice.injEq, Option.some.injEq, Addr.mk.injEq, and_true, true_and] at e
        obtain ⟨rfl, rfl⟩ := e
        have hcs' : cur.size = ms.length := by omega
        refine ⟨cur, hgg, hcs', fun m hm => ?_⟩
        have := congrArg (fun x => x[m]?) ht
        simp only [Value.cells, Nat.mul_one] at this
        rw [List.take_of_length_le (by simp; omega)] at this
        simpa [madeCells, hm, Nat.mod_one] using this
      have HO := hid hO0
      have HBL := hid hB0
      have HB := hid hb1
      have HR11 := hid (HR1.out.below hb1)
      clear ho hg hb1 hO0 hB0 hlt hj
      refine Stop.go ?_
      go_wp2_with fail
      refine (refr_place a c ms me w1 HR11.out (by omega)).mono ?_
      rintro e w2 ⟨rfl, rfl⟩
      rw [HPI.out]
      have cp := ObjAt.cell HO.out p (.bool false) (HBL.out.2 p hp)
      have fp := ObjAt.frozen HO.out p
      have HO2 := hid (HO.out.set p (.bool true))
      have HB2 := hid (HB.out.trans ((Kept.set (B := w.heap.size) w1 ⟨w.heap.size, p, none⟩ (.bool true)).below (Nat.le_refl _)))
      have HBL2 : Hid (Bools (cu0.setIfInBounds p (.bool true)) ms (takB me q 0)) := HBL.out.take HL.out hp (fun x => by unfold takB; rw [HPE.out]; simp)
      generalize hnb : w.heap.size = nb at *
      have HNB := hid hnb
      clear HO HB HBL HR11 HPE hnb
      go_wp2_with fail
      clear cp fp
      go_loopw [11] (fun s wr => ∃ (j : Nat) (cu : Array Value), s = .int .i64 j ∧ 1 ≤ j ∧ j ≤ k + 1 ∧ Hid (ObjAt wr nb 4 cu) ∧ Hid (Bools cu ms (takB me q (j - 1))) ∧ Hid (Below nb w wr)) (fun s _ => (k + 1) - (intOf s).toNat)
      case atStart => exact ⟨1, _, rfl, Nat.le_refl _, by omega, HO2, HBL2, HB2⟩
      case round =>
        clear HO2 HBL2 HB2
        obtain ⟨j, cu, rfl, hj1, hjk, HO, HBL, HB⟩ := hrel
        by_cases hlt : j < k + 1
        · obtain ⟨s, rfl⟩ : ∃ s, j = s + 1 := ⟨j - 1, by omega⟩
          rw [Nat.add_sub_cancel] at HBL
          have hsq : s < q.length := by omega
          have hskI : (s : Int) + 1 < (k : Int) + 1 := by omega
          obtain ⟨wo, rfl⟩ : ∃ wo : World, wo = wr := ⟨_, rfl⟩
          go_wp2_with fail
          go_loopw [12, 13] (fun s12 s13 wr => ∃ (b : Int) (i : Nat), s12 = .int .i64 b ∧ s13 = .int .i64 i ∧ i ≤ ms.length ∧ Hid (BestTo lat ms (takB me q s) i b) ∧ Hid (ObjAt wr nb 4 cu) ∧ Hid (Below nb w wr)) (fun _ s13 _ => ms.length - (intOf s13).toNat)
          case atStart => exact ⟨-1, 0, rfl, rfl, Nat.zero_le _, BestTo.start _ _ _, HO, HB⟩
          case round =>
            clear HO HB
            obtain ⟨b, i, rfl, rfl, hi, HBT, HO, HB⟩ := hrel
            by_cases hil : i < ms.length
            · have ci := ObjAt.cell HO.out i _ (HBL.out.2 i hil)
              have hrw : RowAt wr a (ms.map (Value.int .i64)) := HR1.out.below (by rw [HNB.out]; exact HB.out)
              have hrw2 : RowAt wr a2 (lat.map (Value.int .i64)) := HR2.out.below (by rw [HNB.out]; exact HB.out)
              cases htk : takB me q s ms[i] with
              | true =>
                have HX := hid (HBT.out.skip hil htk)
                rw [htk] at ci
                clear htk HBT hrw hrw2
                go_wp2_with fail
                go_quiet (fail)
                have HO2 : Hid (ObjAt (wr.drewN nq) nb 4 cu) := HO.out
                have HB2 : Hid (Below nb w (wr.drewN nq)) := HB.out.trans (below_drewN' nq)
                clear HO HB ci
                generalize wr.drewN nq = w3 at *
                go_wp2
                go_roundw
                case rel => exact ⟨b, i + 1, rfl, by go_num, by omega, HX, HO2, HB2⟩
                case measure => simp [intOf]; omega
              | false =>
                rw [htk] at ci
                rcases HBT.out.val with rfl | ⟨j, rfl, hj⟩
                · have HX := hid (HBT.out.first hil htk)
                  clear htk HBT hrw hrw2
                  go_wp2_with fail
                  go_quiet (fail)
                  have HO2 : Hid (ObjAt (wr.drewN nq) nb 4 cu) := HO.out
                  have HB2 : Hid (Below nb w (wr.drewN nq)) := HB.out.trans (below_drewN' nq)
                  clear HO HB ci
                  generalize wr.drewN nq = w3 at *
                  go_wp2
                  go_roundw
                  case rel => first | exact ⟨_, i + 1, rfl, by go_num, by omega, HX, HO2, HB2⟩ | ((repeat apply Exists.intro); exact ⟨⟨_, i + 1, rfl, by go_num, by omega, HX, HO2, HB2⟩, rfl⟩)
                  case measure => simp [intOf]; omega
                · obtain ⟨ab, ao, rfl, hci⟩ := hrw.at i (by simpa using hil)
                  obtain ⟨ab2, ao2, e2, hcj⟩ := hrw.at j (by simpa using hj)
                  simp only [Option.some.injEq, Addr.mk.injEq, and_true] at e2
                  obtain ⟨rfl, rfl⟩ := e2
                  simp only [List.getElem_map] at hci hcj
                  have HFA : Hid (∀ r, 0 ≤ r → ∀ n, Calls Try.prog 42 #[.slice a2 lat.length c2, .int .i64 r] (wr.drewN n) fun e w' => e = .returned (.int .i64 (farI lat r)) ∧ w' = wr.drewN n) := fun r h0 n => (ref_far a2 c2 lat r (wr.drewN n) hrw2 h0).mono fun e w' h => ⟨h.1, h.2.symm⟩
                  have hxi : 0 ≤ ms[i] := (HL.out.1 i hil hil).1
                  have hxj : 0 ≤ ms[j] := (HL.out.1 j hj hj).1
                  have H1 := hid (fun h => HBT.out.better hil hj htk h)
                  have H2 := hid (fun h => HBT.out.stay HL.out hil hj htk h)
                  clear htk HBT hrw hrw2
                  generalize ms[i] = x at *
                  generalize ms[j] = y at *
                  have hj0 : decide ((j : Int) < 0) = false := decide_eq_false (by omega)
                  have hjz : (0 : Int) ≤ j := by omega
                  have hjz2 : (j : Int) < ms.length := by omega
                  have hjz3 : (i : Int) < ms.length := by omega
                  by_cases hf : farI lat x < farI lat y
                  · have HX := hid (H1.out hf)
                    clear H1 H2
                    go_wp2_with fail
                    go_quiet (first | (go_at_call 42; exact Calls.quiet_of_same (HFA.out _ (by assumption) _)))
                    have HO2 : Hid (ObjAt (wr.drewN nq) nb 4 cu) := HO.out
                    have HB2 : Hid (Below nb w (wr.drewN nq)) := HB.out.trans (below_drewN' nq)
                    clear HO HB ci hci hcj HFA hj0
                    generalize wr.drewN nq = w3 at *
                    go_wp2
                    go_roundw
                    case rel => first | exact ⟨_, i + 1, rfl, by go_num, by omega, HX, HO2, HB2⟩ | ((repeat apply Exists.intro); exact ⟨⟨_, i + 1, rfl, by go_num, by omega, HX, HO2, HB2⟩, rfl⟩)
                    case measure => simp [intOf]; omega
                  · have HX := hid (H2.out hf)
                    clear H1 H2
                    go_wp2_with fail
                    go_quiet (first | (go_at_call 42; exact Calls.quiet_of_same (HFA.out _ (by assumption) _)))
                    have HO2 : Hid (ObjAt (wr.drewN nq) nb 4 cu) := HO.out
                    have HB2 : Hid (Below nb w (wr.drewN nq)) := HB.out.trans (below_drewN' nq)
                    clear HO HB ci hci hcj HFA hj0
                    generalize wr.drewN nq = w3 at *
                    go_wp2
                    go_roundw
                    case rel => first | exact ⟨_, i + 1, rfl, by go_num, by omega, HX, HO2, HB2⟩ | ((repeat apply Exists.intro); exact ⟨⟨_, i + 1, rfl, by go_num, by omega, HX, HO2, HB2⟩, rfl⟩)
                    case measure => simp [intOf]; omega
            · obtain rfl : i = ms.length := by omega
              obtain ⟨m, hm1, rfl, hm2⟩ := BestTo.next HL.out HQ.out hsq HBT.out
              have cm := ObjAt.cell HO.out m _ (HBL.out.2 m hm1)
              have fm := ObjAt.frozen HO.out m
              have HO2 := hid (HO.out.set m (.bool true))
              have HB2 := hid (HB.out.trans ((Kept.set (B := nb) wr ⟨nb, m, none⟩ (.bool true)).below (Nat.le_refl _)))
              have HBL2 : Hid (Bools (cu.setIfInBounds m (.bool true)) ms (takB me q (s + 1))) := HBL.out.take HL.out hm1 (fun x => by rw [hm2]; exact takB_next hsq x)
              clear HBT hm2 HO HB HBL
              go_wp2_with fail
              go_roundw
              case rel => exact ⟨s + 1 + 1, _, by go_num, by omega, by omega, HO2, by rw [Nat.add_sub_cancel]; exact HBL2, HB2⟩
              case measure => simp [intOf]; omega
        · rw [show j - 1 = k by omega] at HBL
          go_wp2_with fail
          have hnbs := HO.out.lt
          generalize hPd : takB me q k = P at *
          have HPd := hid hPd
          clear hPd
          obtain ⟨wo, rfl⟩ : ∃ wo : World, wo = wr := ⟨_, rfl⟩
          go_loopw [14, 15] (fun dv i wr2 => ∃ (n : Nat) , i = .int .i64 n ∧ n ≤ ms.length ∧ Hid (wr2.ownsRow (nb + 1) 3 1 dv ((ms.take n).filter P).length (((ms.take n).filter P).map (Value.int .i64))) ∧ Hid (Below (nb + 1) wo wr2)) (fun _ i _ => ms.length - (intOf i).toNat)
          case atStart => exact ⟨0, rfl, Nat.zero_le _, by simp; exact World.ownsRow_nil _ _ _ _, Below.refl _ _⟩
          case round =>
            obtain ⟨n, rfl, hn, HW, HC⟩ := hrel
            by_cases hlt : n < ms.length
            · have hrw : RowAt wr a (ms.map (Value.int .i64)) := HR1.out.below (by rw [HNB.out]; exact HB.out.trans (HC.out.mono (Nat.le_succ _)))
              have hO : ObjAt wr nb 4 cu := by unfold ObjAt; rw [HC.out.block nb (Nat.lt_succ_self _)]; exact HO.out
              have cn := hO.cell n _ (HBL.out.2 n hlt)
              obtain ⟨b, o, rfl, hc⟩ := hrw.at n (by simpa using hlt)
              simp only [List.getElem_map] at hc
              have hfl := filt_len (p := P) (l := ms) (k := n)
              have H1 := hid (filt_keep (p := P) hlt)
              have H2 := hid (filt_drop (p := P) hlt)
              have hws : nb + 1 ≤ wr.heap.size := Nat.le_trans hnbs HC.out.size
              clear hrw hO
              generalize hD : (ms.take n).filter P = D at *
              generalize ms[n] = x at *
              clear hD
              obtain ⟨da, dc, rfl, -⟩ := owns_row HW.out
              cases hx : P x with
              | false =>
                rw [hx] at cn
                have HX := hid (H2.out hx)
                clear hx H1 H2
                go_wp2_with fail
                go_roundw
                case rel => exact ⟨n + 1, by go_num, by omega, by rw [HX.out]; exact HW, HC⟩
                case measure => simp [intOf]; omega
              | true =>
                rw [hx] at cn
                have HX := hid (H1.out hx)
                clear hx H1 H2
                have HO' : Hid (wr.ownsRow (nb + 1) 3 1 (.slice da D.length dc) (D.map (Value.int .i64)).length (D.map (Value.int .i64))) := by
                  show wr.ownsRow _ _ _ _ _ _
                  rw [List.length_map]; exact HW.out
                go_wp2_with (at_builtin; refine wpList_app_one rfl (.tmp 98) (.tmp 103) 22 rfl (nb + 1) 3 Try.underlying22 infoInt rfl _ _ (.int .i64 x) rfl HO'.out rfl rfl (by simp; omega) (by simp; unfold maxLen; omega) hws ?_; intro v1 w1 ho1 hb1; refine Stop.mk ?_)
                have HO1 := hid ho1
                have HB1 := hid (HC.out.trans hb1)
                clear ho1 hb1 HW HO' HC
                refine Stop.go ?_
                go_wp2_with fail
                go_roundw
                case rel => exact ⟨n + 1, by go_num, by omega, by rw [HX.out]; exact hid (by simpa using HO1.out), HB1⟩
                case measure => simp [intOf]; omega
            · obtain rfl : n = ms.length := by omega
              have ho2 := HW.out
              rw [List.take_length] at ho2
              have HO2 := hid ho2
              have HF := hid (HB.out.trans (HC.out.mono (Nat.le_succ _)))
              clear HW ho2 HB HC
              go_wp2_with fail
              go_ret
              refine ⟨_, rfl, ?_, by rw [HNB.out]; exact HF.out⟩
              have e : quoL ms me q ((k : Int) + 1 - 1).toNat = ms.filter P := by
                rw [← HPd.out, show ((k : Int) + 1 - 1).toNat = k by omega]; rfl
              rw [e]
              exact owns_ints HO2.out
end Go.Proofs.Ytmhlckicjojmoaa
