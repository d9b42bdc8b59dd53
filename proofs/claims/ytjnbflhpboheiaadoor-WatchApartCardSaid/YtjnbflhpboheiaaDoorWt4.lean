/-
  fire: a walk.
-/
import Derived.Test.YtjnbflhpboheiaaDoorWt3
import Derived.Deep.CutBlock
import Derived.Maps.Own
import Derived.Maps.Range
import Derived.Maps.RangeRun
import Derived.Deep.RegionWith
namespace Go.Proofs.YtjnbflhpboheiaaDoor
open Go.RowKit Go.ChangeMaps
set_option maxRecDepth 20000
set_option linter.unusedVariables false

set_option maxHeartbeats 4000000 in
theorem hub_fire (hb mh : Nat) (D : List Dk) (m : List UInt8 × Int) (kind : Int) (w : World) (h : HubT w hb mh D) (ho : ∀ a ∈ absD D, 0 ≤ a.last ∧ a.last ≤ 4611686018427387904 ∧ a.ev.length ≤ 1073741824) (hn : D.length ≤ 4611686018427387904) :
    Calls Tryd.prog 21 #[.pointer (some ⟨hb, 0, none⟩), .agg #[tkey m.1, .int .i64 m.2], .int .i64 kind] w fun e w' => e = .returned (.int .i64 (hits m (absD D) : Nat)) ∧ ∃ D', HubT w' hb mh D' ∧ absD D' = (absD D).map (fireA m kind) ∧ MovedH w w' hb mh D D' := by
  have HH := hid h
  have HOK := hid ho
  have HBX := hid (ObjAt.new w 60 #[tkey m.1, .int .i64 m.2])
  have HB := hid (below_new (w := w) (.cells #[tkey m.1, .int .i64 m.2] 60))
  have HT := hid (HH.out.below HB.out)
  obtain ⟨arr, clock, hbm, hent, hbo, hnd, hks⟩ := HT.out.map
  have hrg := _root_.Go.run_range_map (P := Tryd.prog) (w.alloc (.cells #[tkey m.1, .int .i64 m.2] 60)) _ _ _ mh arr clock Tryd.underlying53 hbm
  have hent' : arr.toList.map (fun e => (e.key, e.val)) = D.map fun d => (skey (dEnt d).1, (dEnt d).2) := by rw [hent, List.map_map]; rfl
  have HI : Hid (FireIn (w.alloc (.cells #[tkey m.1, .int .i64 m.2] 60)) D arr clock) := ⟨hent', hbo, hnd⟩
  have HBM := hid hbm
  have HTOT : Hid (unseenW (hit m) (arr.toList.zip (absD D)) #[] = hits m (absD D)) := by
    show _ = _
    rw [unseenW_all]
    unfold hits
    have e := zip_sndW arr.toList (absD D) HI.out.len
    conv => rhs; rw [← e]
    rw [List.map_map]; rfl
  have HLE : Hid (hits m (absD D) ≤ 4611686018427387904) := by
    show _ ≤ _
    have := hits_le m (absD D)
    unfold absD at this
    rw [List.length_map] at this
    unfold absD
    omega
  have HSZ : Hid ((w.alloc (.cells #[tkey m.1, .int .i64 m.2] 60)).heap.size = w.heap.size + 1) := by show _ = _; simp
  have c0 := HT.out.hub.cell 0 (.map (some mh)) rfl
  clear hent hent' hbo hnd hks hbm h ho
  go_enter Tryd.func21, Tryd.ntmps21
  go_wp2_with fail
  clear hrg c0
  generalize hkb : w.heap.size = kb at HBX HSZ ⊢
  generalize w.alloc (.cells #[tkey m.1, .int .i64 m.2] 60) = w1 at *
  have HKB := hid hkb
  clear hkb
  go_loopw [7, 15, 16] (fun n _ _ wr => ∃ (seen : Array Nat) (z : Nat) (Dc : List Dk), n = .int .i64 z ∧ Hid (z + unseenW (hit m) (arr.toList.zip (absD D)) seen = hits m (absD D)) ∧ Hid (FireAt w1 hb mh D m kind arr clock seen wr Dc) ∧ Hid (wr.heap[kb + 1]? = some (.mapIter (some mh) clock seen clock))) (fun _ _ _ wr => (leftOf arr (wr.iterSeen (kb + 1))).size)
  case atStart =>
    refine ⟨#[], 0, D, rfl, by show _ = _; rw [HTOT.out, Nat.zero_add], ⟨HT.out.below (below_new _), ?_, rfl, MovedH.below (below_new _), ?_⟩, by rw [← HSZ.out]; exact heap_alloc_new _ _⟩
    · rw [curA_none, zip_sndW _ _ HI.out.len]
    · rw [(below_new (w := w1) _).block mh HT.out.map.lt]; exact HBM.out
  case round =>
    obtain ⟨seen, z, Dc, rfl, HS, HF, HR⟩ := hrel
    rcases run_next_at (P := Tryd.prog) wr 0 (kb + 1) mh clock clock seen arr clock HR.out HF.out.map HI.out.born (Nat.le_refl _) with ⟨h0, hrun⟩ | ⟨e, he, w2, hw2, hrun⟩
    · have hrun' : ∀ ty, (Instr.next (.pointer (some ⟨kb + 1, 0, none⟩)) false ty).run Tryd.prog wr = _ := fun _ => hrun
      have HQ : Hid (z = hits m (absD D)) := by
        show _ = _
        have h1 := HS.out
        rw [unseenW_none _ h0 (fun p hp => (List.of_mem_zip hp).1), Nat.add_zero] at h1
        exact h1
      have HEND : Hid (∃ D', HubT wr hb mh D' ∧ absD D' = (absD D).map (fireA m kind) ∧ MovedH w wr hb mh D D') := by
        refine ⟨Dc, HF.out.hub, ?_, (MovedH.below HB.out).trans HF.out.mov⟩
        rw [HF.out.abs, curA_all (fun p hp => seen_allW h0 _ (List.of_mem_zip hp).1), zip_sndW _ _ HI.out.len]
      clear hrun h0 HR HS HF HI HBM HTOT HBX
      go_wp2_with fail
      go_ret
      exact ⟨by rw [← HQ.out]; rfl, HEND.out⟩
    · obtain ⟨hmem, hns⟩ := mem_left he
      obtain ⟨x, hx, hzip, q1, q2⟩ := HI.out.at hmem
      have hns' : seen.contains e.born = false := by simpa using hns
      obtain ⟨y, hy, eyb, eya⟩ := HF.out.at HI.out HT.out hzip hx hns'
      have HU : Hid (unseenW (hit m) (arr.toList.zip (absD D)) seen = hit m x.a + unseenW (hit m) (arr.toList.zip (absD D)) (seen.push e.born)) := unseenW_step (hit m) (arr.toList.zip (absD D)) seen (e, x.a) HI.out.borns hzip hns'
      rw [q1, q2] at hrun
      have hz2 : w2.heap = wr.heap := by rcases hw2 with rfl | rfl <;> rfl
      have hk2 : KeptS (fun k => k = (kb + 1)) wr w2 := by
        rcases hw2 with rfl | rfl
        · exact KeptS.refl _ _
        · exact KeptS.of_below (Below.refl _ _).drew
      have hkW := hid (hk2.next (KeptS.of_kept (S := fun k => k = (kb + 1)) (kept_setMap (w := w2) (m := (kb + 1)) (o := .mapIter (some mh) clock (seen.push e.born) clock)) rfl))
      have hRlt : (kb + 1) < wr.heap.size := by
        have := HR.out
        exact (Array.getElem?_eq_some_iff.1 this).1
      have HR2 : Hid ((setBlock w2 (kb + 1) (.mapIter (some mh) clock (seen.push e.born) clock)).heap[(kb + 1)]? = some (.mapIter (some mh) clock (seen.push e.born) clock)) := by
        show (w2.heap.setIfInBounds _ _)[_]? = _
        rw [hz2]; simp [hRlt]
      have hrun' : ∀ ty, (Instr.next (.pointer (some ⟨kb + 1, 0, none⟩)) false ty).run Tryd.prog wr = _ := fun _ => hrun
      have HI' : Hid (wr.iterSeen (kb + 1) = seen) := by show _ = _; unfold World.iterSeen; rw [HR.out]
      have HSH := hid (left_shrinks arr seen e he)
      change Hid (KeptS (fun k => k = (kb + 1)) wr (setBlock w2 (kb + 1) (.mapIter (some mh) clock (seen.push e.born) clock))) at hkW
      have hnr := HF.out.hub.not_iter HR.out
      have HW : Hid (HubT (setBlock w2 (kb + 1) (.mapIter (some mh) clock (seen.push e.born) clock)) hb mh Dc) := HF.out.hub.keptS hkW.out (fun k hk e => hnr (e ▸ hk))
      have hbw2 : (setBlock w2 (kb + 1) (.mapIter (some mh) clock (seen.push e.born) clock)).heap[mh]? = some (.map arr clock) := by
        rw [hkW.out.block mh HF.out.hub.map.lt (fun e => hnr (.inr (.inl e.symm)))]; exact HF.out.map
      have hen := run_entry_at (P := Tryd.prog) _ (kb + 1) mh clock seen arr clock e HR2.out hbw2 hmem HI.out.nodup
      rw [q1, q2, ← eyb] at hen
      rw [← eyb] at hrun'
      clear q1 q2 hz2 hk2 hw2 hrun he hbw2 hnr hRlt
      generalize setBlock w2 (kb + 1) (.mapIter (some mh) clock (seen.push e.born) clock) = W at *
      have HBk : Hid (ObjAt W kb 60 #[tkey m.1, .int .i64 m.2]) := by
        have h1 : ¬ HubHas hb mh D kb := fun e => by have := HH.out.lt _ e; have := HKB.out; omega
        have h2 := HBX.out.keptS HF.out.mov.2 h1
        exact h2.keptS hkW.out (fun e => by omega)
      have HY := hid (HW.out.ds y hy)
      have hoky := HOK.out x.a (List.mem_map.2 ⟨x, hx, rfl⟩)
      have k0 := HBk.out.cell 0 (tkey m.1) rfl
      have k1 := HBk.out.cell 1 (.int .i64 m.2) rfl
      have y3 := HY.out.obj.cell 3 (.map (some y.mb)) rfl
      have HMD : Hid (DkAt W.drew y) := HY.out.keptS (S := fun _ => False) (KeptS.of_below (Below.refl _ _).drew) (fun _ _ h => h)
      have hl := run_look (P := Tryd.prog) Tryd.underlying63 keyM HMD.out.marks m (.int .i64 0) (by kernel_rfl) false
      rw [look_mark HMD.out m, eya] at hl
      have hl' : (Instr.lookup 63 (.map (some y.mb)) (.agg #[tkey m.1, .int .i64 m.2]) false).run Tryd.prog W.drew = .ok (.int .i64 (hit m x.a)) W.drew := hl
      have HHY := hid hy
      have HHX := hid hx
      have HZIP := hid hzip
      have HEYA := hid eya
      have HEYB := hid eyb
      clear hl hy hx hzip eya eyb hns hns' hmem
      by_cases hm : m ∈ x.a.marks
      · have hh : hit m x.a = 1 := if_pos hm
        rw [hh] at hl' HU
        have HHM := hid hm
        clear hm
        go_wp2_with fail
        go_region
        have HD2 : Hid (DkAt W.drew.drew y) := HMD.out.keptS (S := fun _ => False) (KeptS.of_below (Below.refl _ _).drew) (fun _ _ h => h)
        obtain ⟨W2, hdel, HM5, HK5, hz5, hd5⟩ := run_del (P := Tryd.prog) Tryd.underlying63 keyM (w := W.drew.drew) HD2.out.marks m
        have hdel' : ∀ t1 ty, (Builtin.delete_ #[63, t1] ty #[.map (some y.mb), .agg #[tkey m.1, .int .i64 m.2]]).run Tryd.prog W.drew.drew = .ok (.tuple #[]) W2 := hdel
        have HY2 := hid (HD2.out.unmark HM5 HK5)
        have HKB2 : Hid (ObjAt W2 kb 60 #[tkey m.1, .int .i64 m.2]) := by
          have h2 : ObjAt W.drew.drew kb 60 #[tkey m.1, .int .i64 m.2] := HBk.out.keptS (S := fun _ => False) (KeptS.of_below ((Below.refl _ _).drew.drew)) (fun h => h)
          exact h2.kept HK5 (h2.ne_map HD2.out.marks)
        have HK2 : Hid (KeptS (DkHas y) W W2) := (KeptS.of_below ((Below.refl W.heap.size W).drew.drew)).next (KeptS.of_kept HK5 (.inr (.inl rfl)))
        clear hl' hen hrun' hdel HM5 HK5 hz5 hd5
        go_wp2_with fail
        go_region
        clear hdel' y3 k0 k1
        have k0 := HKB2.out.cell 0 (tkey m.1) rfl
        go_wp2_with fail
        go_region_with (go_at_call 34; refine (hub_put { y with a := { y.a with marks := y.a.marks.filter fun x => decide (x ≠ m) } } kind m.1 _ (HY2.out.keptS (S := fun _ => False) (KeptS.of_below (Below.refl _ _).drew) (fun _ _ h => h)) (by rw [HEYA.out]; exact ⟨hoky.1, hoky.2.1⟩) (by rw [HEYA.out]; exact hoky.2.2)).mono ?_; rintro e3 W3 ⟨rfl, v', q1, q2, q3⟩; have Q1 := hid q1; have Q2 := hid q2; have Q3 := hid q3; clear q1 q2 q3)
        all_goals
          have HKW3 : Hid (KeptS (DkHas y) W W3) := HK2.out.next ((KeptS.of_below (Below.refl _ _).drew).next Q2.out)
          have HR3 : Hid (W3.heap[kb + 1]? = some (.mapIter (some mh) clock (seen.push e.born) clock)) := by
            show _ = _
            have hlt : kb + 1 < W.heap.size := by
              have := HR2.out
              exact (Array.getElem?_eq_some_iff.1 this).1
            rw [HKW3.out.block _ hlt (HY.out.not_iter HR2.out)]; exact HR2.out
          have HF3 : Hid (FireAt w1 hb mh D m kind arr clock (seen.push e.born) W3 (setD Dc { y with v := v', a := fireA m kind x.a })) := by
            refine HF.out.fire HI.out HT.out (y := y) HZIP.out HHY.out HEYA.out HR.out hkW.out (Nat.le_of_eq HSZ.out) ?_ rfl rfl rfl HKW3.out (fun k hk => (Q3.out k hk).imp id (fun h => Nat.le_trans HK2.out.size h))
            have q := Q1.out
            rw [HEYA.out] at q
            unfold fireA
            rw [if_pos HHM.out]
            exact q
          have HU2 : Hid (z + 1 + unseenW (hit m) (arr.toList.zip (absD D)) (seen.push e.born) = hits m (absD D)) := by
            have h1 := HS.out
            have h2 := HU.out
            show z + 1 + _ = _
            omega
          have hz1 : (z : Int) + 1 ≤ 4611686018427387904 := by
            have h1 := HU2.out
            have h2 := HLE.out
            omega
          clear HS HU HR HR2 HD2 HY2 HKB2 HK2 Q1 Q2 Q3 HF hkW HW HBk HY HMD k0 HKW3
          go_wp2_with fail
          go_roundw
          case rel => exact ⟨seen.push e.born, z + 1, _, by go_num, HU2, HF3, HR3⟩
          case measure =>
            rw [HI'.out]
            have : W3.iterSeen (kb + 1) = seen.push e.born := by unfold World.iterSeen; rw [HR3.out]
            rw [this]
            exact HSH.out
      · have hh : hit m x.a = 0 := if_neg hm
        rw [hh] at hl' HU
        have HHM := hid hm
        clear hm
        go_wp2_with fail
        go_region
        have HR3 : Hid (W.drew.heap[kb + 1]? = some (.mapIter (some mh) clock (seen.push e.born) clock)) := HR2.out
        have HKD : Hid (KeptS (fun k => k = kb + 1) wr W.drew) := hkW.out.next (KeptS.of_below (Below.refl _ _).drew)
        clear hl' hen hrun' k0 k1 y3 HR2
        generalize W.drew = W4 at *
        go_wp2_with fail
        go_roundw
        case rel =>
          refine ⟨seen.push e.born, z, Dc, rfl, ?_, HF.out.skip HI.out HZIP.out HHM.out HR.out HKD.out (Nat.le_of_eq HSZ.out), HR3⟩
          have h1 := HS.out
          have h2 := HU.out
          show z + _ = _
          omega
        case measure =>
          rw [HI'.out]
          have : W4.iterSeen (kb + 1) = seen.push e.born := by unfold World.iterSeen; rw [HR3.out]
          rw [this]
          exact HSH.out
end Go.Proofs.YtjnbflhpboheiaaDoor
