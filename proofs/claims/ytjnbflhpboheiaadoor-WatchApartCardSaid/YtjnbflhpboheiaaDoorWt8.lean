/-
  Add: a walk.
-/
import Derived.Test.YtjnbflhpboheiaaDoorWt7
namespace Go.Proofs.YtjnbflhpboheiaaDoor
open Go.RowKit Go.ChangeMaps
set_option maxRecDepth 20000
set_option linter.unusedVariables false

set_option maxHeartbeats 4000000 in
theorem hub_Add (hb mh : Nat) (D : List Dk) (k : List UInt8 × Int) (kind : Int) (p : List UInt8) (w : World) (h : HubT w hb mh D) (hok : ∀ a ∈ absD D, a.ev.length ≤ 1073741824 ∧ a.marks.length ≤ 1073741824) :
    Calls Tryd.prog 8 #[.pointer (some ⟨hb, 0, none⟩), .agg #[tkey k.1, .int .i64 k.2], .int .i64 kind, tkey p] w (AddP w hb mh D k (p, kind)) := by
  have HH := hid h
  have HOK := hid hok
  clear h hok
  go_enter Tryd.func8, Tryd.ntmps8
  have HK := hid ((ObjAt.new w 28 #[tkey k.1, .int .i64 k.2]).below (below_new (.cells #[tkey p, .int .i64 kind] 60)))
  have HM := hid (ObjAt.new (w.alloc (.cells #[tkey k.1, .int .i64 k.2] 28)) 60 #[tkey p, .int .i64 kind])
  have HB := hid ((below_new (w := w) (.cells #[tkey k.1, .int .i64 k.2] 28)).alloc (by simp) (.cells #[tkey p, .int .i64 kind] 60))
  have k0 := HK.out.cell 0 (tkey k.1) rfl
  have k1 := HK.out.cell 1 (.int .i64 k.2) rfl
  go_wp2_with fail
  refine (wt_check k (p, kind) _).mono ?_
  rintro e2 w2 ⟨rfl, hb2⟩
  have HK2 := hid (HK.out.below hb2)
  have HM2 := hid (HM.out.below hb2)
  have HB2 := hid (below_next HB.out hb2)
  rw [show (w.alloc (.cells #[tkey k.1, .int .i64 k.2] 28)).heap.size = w.heap.size + 1 from by simp] at HM2
  have HT := hid (HH.out.below HB2.out)
  clear HK HM HB hb2 k0 k1
  generalize hkb : w.heap.size = kb at HK2 HM2 ⊢
  have HKB := hid hkb
  clear hkb
  by_cases hc : checkP k (p, kind) = 0
  · rw [hc]
    have HC := hid hc
    clear hc
    have k0 := HK2.out.cell 0 (tkey k.1) rfl
    have k1 := HK2.out.cell 1 (.int .i64 k.2) rfl
    have c0 := HT.out.hub.cell 0 (.map (some mh)) rfl
    have HTd : Hid (HubT w2.drew hb mh D) := HT.out.below (Below.refl _ _).drew
    have l0 := run_look (P := Tryd.prog) Tryd.underlying53 KeyOk.skey HTd.out.map k (.pointer none) (by kernel_rfl) false
    rw [look_seekD] at l0
    generalize hv : ((seekD D k).map fun d => Value.pointer (some ⟨d.db, 0, none⟩)).getD (.pointer none) = hval at l0
    have l1 : (Instr.lookup 53 (.map (some mh)) (.agg #[tkey k.1, .int .i64 k.2]) false).run Tryd.prog w2.drew = .ok hval w2.drew := l0
    clear l0
    go_wp2_with fail
    go_region
    have HBd := hid (HB2.out.trans ((Below.refl w.heap.size w2).drew))
    have HKd : Hid (ObjAt w2.drew kb 28 #[tkey k.1, .int .i64 k.2]) := HK2.out.below (Below.refl _ _).drew
    have HMd : Hid (ObjAt w2.drew (kb + 1) 60 #[tkey p, .int .i64 kind]) := HM2.out.below (Below.refl _ _).drew
    have q1 : (eqGuard BinOp.eql 62 (Operand.tmp 27) (Operand.const (Value.pointer none)) hval (Value.pointer none)).run Tryd.prog w2.drew = .ok () w2.drew := by
      cases hs : seekD D k with
      | none => rw [hs] at hv; rw [← hv]; rfl
      | some x => rw [hs] at hv; rw [← hv]; rfl
    have q2 : (binOp BinOp.eql 62 hval (Value.pointer none)).run Tryd.prog w2.drew = .ok (.bool (seekD D k).isNone) w2.drew := by
      cases hs : seekD D k with
      | none => rw [hs] at hv; rw [← hv]; rfl
      | some x => rw [hs] at hv; rw [← hv]; rfl
    clear l1 k0 k1 c0 HT HK2 HM2 HB2
    generalize w2.drew = w3 at *
    go_upto_if 28 with fail
    go_cut [11] from 26 to 31 (fun s11 wx => ∃ x : Dk, s11 = .pointer (some ⟨x.db, 0, none⟩) ∧ Hid (AddAt wx w.heap.size D k x) ∧ Hid (Below w.heap.size w wx) ∧ Hid (ObjAt wx kb 28 #[tkey k.1, .int .i64 k.2]) ∧ Hid (ObjAt wx (kb + 1) 60 #[tkey p, .int .i64 kind]))
    case first =>
      clear q1 q2
      cases hs : seekD D k with
      | none =>
        rw [hs] at hv
        have HF := hid hs
        have hv' : Value.pointer none = hval := hv
        subst hv'
        have hmm := @run_makeMap Tryd.prog
        clear hs hv
        go_wp2_with fail
        go_meet
        case rel =>
          refine ⟨⟨w3.heap.size + 1, w3.heap.size, .slice none 0 0, newDa k⟩, rfl, ⟨⟨?_, ?_, ?_⟩, rfl, .inr ⟨HF.out, rfl, ?_, HBd.out.size, rfl⟩⟩, ?_, HKd.out.below ?_, HMd.out.below ?_⟩
          · have h := ObjAt.new (w3.alloc (.map #[] 0)) 67 #[.slice none 0 0, .int .i64 0, .int .i64 0, .map (some w3.heap.size)]
            rw [show (w3.alloc (.map #[] 0)).heap.size = w3.heap.size + 1 from by simp] at h
            exact h
          · exact (MapAt.new w3 skey).below (below_new _)
          · exact World.ownsRow_nil _ _ _ _
          · have := HBd.out.size; show w.heap.size ≤ w3.heap.size + 1; omega
          · exact below_step HBd.out HBd.out.size (((Below.refl w3.heap.size w3).alloc (Nat.le_refl _) (.map #[] 0)).alloc (by simp) (.cells #[.slice none 0 0, .int .i64 0, .int .i64 0, .map (some w3.heap.size)] 67))
          · exact ((Below.refl w3.heap.size w3).alloc (Nat.le_refl _) (.map #[] 0)).alloc (by simp) _
          · exact ((Below.refl w3.heap.size w3).alloc (Nat.le_refl _) (.map #[] 0)).alloc (by simp) _
      | some x =>
        rw [hs] at hv
        have HX := hid hs
        have hv' : Value.pointer (some ⟨x.db, 0, none⟩) = hval := hv
        subst hv'
        clear hs hv
        go_wp2_with fail
        go_meet
        case rel => exact ⟨x, rfl, ⟨HTd.out.ds x (seekD_some HX.out).1, (seekD_some HX.out).2, .inl ⟨(seekD_some HX.out).1, HX.out⟩⟩, HBd, HKd, HMd⟩
    case rest =>
      obtain ⟨x, rfl, HX, HBX, HKX, HMX⟩ := hcut
      clear HTd HBd HKd HMd q1 q2 hv
      generalize hwc : wc = w4 at *
      clear hwc
      obtain ⟨va, vc, hve, -, -, -⟩ := owns_row HX.out.dk.row
      have m0 := HMX.out.cell 0 (tkey p) rfl
      have m1 := HMX.out.cell 1 (.int .i64 kind) rfl
      have d0 := HX.out.dk.obj.cell 0 x.v rfl
      rw [hve] at d0
      have d3 := HX.out.dk.obj.cell 3 (.map (some x.mb)) rfl
      have hl : ∀ n, (Instr.lookup 63 (.map (some x.mb)) (.agg #[tkey p, .int .i64 kind]) false).run Tryd.prog (w4.drewN n) = .ok (.int .i64 (hit (p, kind) x.a)) (w4.drewN n) := fun n => by
        have h := run_look (P := Tryd.prog) Tryd.underlying63 keyM (HX.out.dk.below (below_drewN' n)).marks (p, kind) (.int .i64 0) (by kernel_rfl) false
        rw [look_mark (HX.out.dk.below (below_drewN' n))] at h
        exact h
      have hln : ∀ n t2, (Builtin.len_ #[63] t2 #[.map (some x.mb)]).run Tryd.prog (w4.drewN n) = .ok (.int .i64 x.a.marks.length) (w4.drewN n) := fun n t2 => by
        have h := run_len (P := Tryd.prog) Tryd.underlying63 (HX.out.dk.below (below_drewN' n)).marks t2
        rw [List.length_map] at h
        exact h
      have HSE := hid (HX.out.seek (p, kind) HC.out)
      have hsm : x.a.ev.length ≤ 1073741824 ∧ x.a.marks.length ≤ 1073741824 := by
        rcases HX.out.is with ⟨hx, -⟩ | ⟨-, e, -⟩
        · exact HOK.out x.a (List.mem_map.2 ⟨x, hx, rfl⟩)
        · rw [e]; simp [newDa]
      obtain ⟨hs1, hs2⟩ := hsm
      by_cases hfu : (p, kind) ∉ x.a.marks ∧ 32 ≤ x.a.marks.length + x.a.ev.length
      · obtain ⟨hm, h32⟩ := hfu
        have hh : hit (p, kind) x.a = 0 := if_neg hm
        rw [hh] at hl
        have HE : Hid (addE (absD D) k (p, kind) = 61) := by show _ = _; rw [HSE.out, if_pos ⟨hm, h32⟩]
        have h32' : (32 : Int) ≤ x.a.marks.length + x.a.ev.length := by omega
        have hd : decide ((32 : Int) ≤ (x.a.marks.length : Int) + (x.a.ev.length : Int)) = true := decide_eq_true h32'
        clear hm hh h32
        go_wp2_with fail
        go_quiet (fail)
        have HEND := hid (AddP.no HH.out (HBX.out.trans (below_drewN' (B := w.heap.size) (w := w4) nq)) HE.out (by decide))
        clear hl hln m0 m1 d0 d3
        go_wp2_with fail
        go_ret
        exact HEND.out
      · have HE : Hid (addE (absD D) k (p, kind) = 0) := by show _ = _; rw [HSE.out, if_neg hfu]
        rcases (by by_cases hm : (p, kind) ∈ x.a.marks; exact .inl hm; exact .inr ⟨hm, Nat.lt_of_not_le (fun q => hfu ⟨hm, q⟩)⟩ : (p, kind) ∈ x.a.marks ∨ (p, kind) ∉ x.a.marks ∧ x.a.marks.length + x.a.ev.length < 32) with hm | ⟨hm, h32⟩
        · have hh : hit (p, kind) x.a = 1 := if_pos hm
          rw [hh] at hl
          clear hm hh hfu
          go_wp2_with fail
          go_quiet (fail)
          have HX5 := hid (HX.out.below (below_drewN' nq))
          have HB5 := hid (HBX.out.trans (below_drewN' (B := w.heap.size) (w := w4) nq))
          have HK5 := hid (HKX.out.below (below_drewN' nq))
          have HM5 := hid (HMX.out.below (below_drewN' nq))
          clear hl hln m0 m1 d0 d3 HX HBX HKX HMX
          generalize w4.drewN nq = w5 at *
          have HX6 := hid (HX5.out.below (Below.refl _ _).drew)
          obtain ⟨W7, hup, HM7, HK7, -, -⟩ := run_upd (P := Tryd.prog) Tryd.underlying63 keyM (w := w5.drew) HX6.out.dk.marks (p, kind) (.int .i64 1)
          have hup' : (Instr.mapUpdate 63 (.map (some x.mb)) (.agg #[tkey p, .int .i64 kind]) (.int .i64 1)).run Tryd.prog w5.drew = .ok () W7 := hup
          have m0 := HM5.out.cell 0 (tkey p) rfl
          have m1 := HM5.out.cell 1 (.int .i64 kind) rfl
          have d3 := HX5.out.dk.obj.cell 3 (.map (some x.mb)) rfl
          clear hup
          go_wp2_with fail
          go_region
          clear hup' m0 m1 d3
          have hoff := HX6.out.off HH.out (HB5.out.trans (Below.refl w.heap.size w5).drew)
          have hw' := HH.out.below (HB5.out.trans (Below.refl w.heap.size w5).drew)
          have hk7 : KeptS (DkHas x) w5.drew W7 := KeptS.of_kept HK7 (.inr (.inl rfl))
          have HMH := hid (hw'.map.keptS hk7 hoff.2)
          have c0 := ObjAt.cell (hw'.hub.keptS hk7 hoff.1) 0 (.map (some mh)) rfl
          have HKE : Hid (ObjAt W7 kb 28 #[tkey k.1, .int .i64 k.2]) := (HK5.out.below (Below.refl _ _).drew).kept HK7 ((HK5.out.below (Below.refl _ _).drew).ne_map HX6.out.dk.marks)
          have k0 := HKE.out.cell 0 (tkey k.1) rfl
          have k1 := HKE.out.cell 1 (.int .i64 k.2) rfl
          obtain ⟨W8, hup, HM8, HK8, -, -⟩ := run_upd (P := Tryd.prog) Tryd.underlying53 KeyOk.skey (w := W7.drew) (HMH.out.below (Below.refl _ _).drew) k (.pointer (some ⟨x.db, 0, none⟩))
          have hup' : (Instr.mapUpdate 53 (.map (some mh)) (.agg #[tkey k.1, .int .i64 k.2]) (.pointer (some ⟨x.db, 0, none⟩))).run Tryd.prog W7.drew = .ok () W8 := hup
          have HEND := hid (add_end (W5 := W7.drew) (m := (p, kind)) HH.out (HB5.out.trans (Below.refl w.heap.size w5).drew) HX6.out (HM7.below (Below.refl _ _).drew) (HK7.trans (Kept.of_below ((Below.refl _ _).drew))) HK8 HM8 HE.out)
          clear hup HM8 HK8 HM7 HK7 hk7 hoff hw'
          go_wp2_with fail
          go_region
          clear hup' c0 k0 k1
          go_wp2_with fail
          go_ret
          exact HEND.out
        · have hh : hit (p, kind) x.a = 0 := if_neg hm
          rw [hh] at hl
          have h32' : ¬ (32 : Int) ≤ x.a.marks.length + x.a.ev.length := by omega
          have hd : decide ((32 : Int) ≤ (x.a.marks.length : Int) + (x.a.ev.length : Int)) = false := decide_eq_false h32'
          clear hm hh h32 hfu
          go_wp2_with fail
          go_quiet (fail)
          have HX5 := hid (HX.out.below (below_drewN' nq))
          have HB5 := hid (HBX.out.trans (below_drewN' (B := w.heap.size) (w := w4) nq))
          have HK5 := hid (HKX.out.below (below_drewN' nq))
          have HM5 := hid (HMX.out.below (below_drewN' nq))
          clear hl hln m0 m1 d0 d3 HX HBX HKX HMX
          generalize w4.drewN nq = w5 at *
          have HX6 := hid (HX5.out.below (Below.refl _ _).drew)
          obtain ⟨W7, hup, HM7, HK7, -, -⟩ := run_upd (P := Tryd.prog) Tryd.underlying63 keyM (w := w5.drew) HX6.out.dk.marks (p, kind) (.int .i64 1)
          have hup' : (Instr.mapUpdate 63 (.map (some x.mb)) (.agg #[tkey p, .int .i64 kind]) (.int .i64 1)).run Tryd.prog w5.drew = .ok () W7 := hup
          have m0 := HM5.out.cell 0 (tkey p) rfl
          have m1 := HM5.out.cell 1 (.int .i64 kind) rfl
          have d3 := HX5.out.dk.obj.cell 3 (.map (some x.mb)) rfl
          clear hup
          go_wp2_with fail
          go_region
          clear hup' m0 m1 d3
          have hoff := HX6.out.off HH.out (HB5.out.trans (Below.refl w.heap.size w5).drew)
          have hw' := HH.out.below (HB5.out.trans (Below.refl w.heap.size w5).drew)
          have hk7 : KeptS (DkHas x) w5.drew W7 := KeptS.of_kept HK7 (.inr (.inl rfl))
          have HMH := hid (hw'.map.keptS hk7 hoff.2)
          have c0 := ObjAt.cell (hw'.hub.keptS hk7 hoff.1) 0 (.map (some mh)) rfl
          have HKE : Hid (ObjAt W7 kb 28 #[tkey k.1, .int .i64 k.2]) := (HK5.out.below (Below.refl _ _).drew).kept HK7 ((HK5.out.below (Below.refl _ _).drew).ne_map HX6.out.dk.marks)
          have k0 := HKE.out.cell 0 (tkey k.1) rfl
          have k1 := HKE.out.cell 1 (.int .i64 k.2) rfl
          obtain ⟨W8, hup, HM8, HK8, -, -⟩ := run_upd (P := Tryd.prog) Tryd.underlying53 KeyOk.skey (w := W7.drew) (HMH.out.below (Below.refl _ _).drew) k (.pointer (some ⟨x.db, 0, none⟩))
          have hup' : (Instr.mapUpdate 53 (.map (some mh)) (.agg #[tkey k.1, .int .i64 k.2]) (.pointer (some ⟨x.db, 0, none⟩))).run Tryd.prog W7.drew = .ok () W8 := hup
          have HEND := hid (add_end (W5 := W7.drew) (m := (p, kind)) HH.out (HB5.out.trans (Below.refl w.heap.size w5).drew) HX6.out (HM7.below (Below.refl _ _).drew) (HK7.trans (Kept.of_below ((Below.refl _ _).drew))) HK8 HM8 HE.out)
          clear hup HM8 HK8 HM7 HK7 hk7 hoff hw'
          go_wp2_with fail
          go_region
          clear hup' c0 k0 k1
          go_wp2_with fail
          go_ret
          exact HEND.out
  · have he : addE (absD D) k (p, kind) = checkP k (p, kind) := if_neg hc
    have HEND := hid (AddP.no HH.out HB2.out he hc)
    have e1 : (checkP k (p, kind) != 0) = true := bne_iff_ne.2 hc
    clear hc he
    generalize checkP k (p, kind) = er at *
    go_wp2_with fail
    go_ret
    exact HEND.out
end Go.Proofs.YtjnbflhpboheiaaDoor
