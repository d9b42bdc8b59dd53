/-
  The document's Add on an empty hub.
-/
import Derived.Test.YtjnbflhpboheiaaDoorRw1
import Derived.BigQuiet
namespace Go.Proofs.YtjnbflhpboheiaaDoor
open Go.RowKit Go.ChangeMaps
set_option maxRecDepth 20000
set_option linter.unusedVariables false

theorem infoRD : (Tryd.prog.info? 92).map (fun i => (i.zero, i.size, i.bytes)) = some (some (.agg #[.string ⟨#[]⟩, .int .i64 0, .int .i64 0, .int .i64 0, .slice none 0 0, .slice none 0 0]), 6, 88) := by kernel_rfl
theorem infoRM : (Tryd.prog.info? 86).map (fun i => (i.zero, i.size, i.bytes)) = some (some (.agg #[.int .i64 0, .string ⟨#[]⟩]), 2, 24) := by kernel_rfl

set_option maxHeartbeats 4000000 in
theorem rf_Add0 (xb : Nat) (home : List UInt8) (n kind : Int) (p : List UInt8) (w : World) (h : Rf0 w xb) : Calls Tryd.prog 24 #[.pointer (some ⟨xb, 0, none⟩), tkey home, .int .i64 n, .int .i64 kind, tkey p] w fun e w' => (∃ r : Int, e = .returned (.int .i64 r)) ∧ KeptS (fun j => j = xb) w w' := by
  have HX := hid h
  clear h
  go_enter Tryd.func24, Tryd.ntmps24
  go_wp2_with fail
  refine (rf_check home n kind p _).mono ?_
  rintro e1 w1 ⟨⟨r, rfl⟩, hb⟩
  have HK1 := hid (KeptS.of_below (S := fun j => j = xb) hb)
  have HX1 := hid (HX.out.below hb)
  clear hb
  by_cases hr : r = 0
  · subst hr
    have HB2 := hid (below_new (w := w1) (.cells #[.int .i64 kind, tkey p] 86))
    have HX2 := hid (HX1.out.below HB2.out)
    have HM2 := hid (ObjAt.new w1 86 #[.int .i64 kind, tkey p])
    have HK2 := hid (HK1.out.next (KeptS.of_below HB2.out))
    go_wp2_with fail
    refine (rf_find0 xb home n _ HX2.out).mono ?_
    rintro e2 w2 ⟨rfl, rfl⟩
    clear HK1 HX1 HB2
    generalize w1.heap.size = mb at *
    generalize w1.alloc (.cells #[.int .i64 kind, tkey p] 86) = w3 at *
    go_wp2_with fail
    go_quiet (fail)
    have HX2b := hid (HX2.out.below (below_drewN' nq))
    have HM2b := hid (HM2.out.below (below_drewN' nq))
    have HK2b := hid (HK2.out.next (KeptS.of_below (below_drewN' nq)))
    clear HX2 HM2 HK2
    generalize w3.drewN nq = w3b at *
    clear nq
    go_wp2_with fail
    go_quiet (fail)
    have HX3 := hid (HX2b.out.below (below_drewN' nq))
    have HM3 := hid (HM2b.out.below (below_drewN' nq))
    have HK3 := hid (HK2b.out.next (KeptS.of_below (below_drewN' nq)))
    clear HX2b HM2b HK2b
    generalize w3b.drewN nq = w4 at *
    have c0 := ObjAt.cell HX3.out 0 (.slice none 0 0) rfl
    go_wp2_with fail
    go_loopw [14, 15, 16] (fun a b i wr => a = .slice none 0 0 ∧ b = .bool false ∧ i = .int .i64 0 ∧ wr = w4) (fun _ _ _ _ => 0)
    case atStart => exact ⟨rfl, rfl, rfl, rfl⟩
    case round =>
      obtain ⟨rfl, rfl, rfl, rfl⟩ := hrel
      have HBD := hid (below_new (w := wr) (.cells #[tkey home, .int .i64 n, .int .i64 0, .int .i64 0, .slice none 0 0, .slice none 0 0] 92))
      go_wp2_with (at_builtin; refine wpList_app_own rfl (.tmp 125) (.tmp 129) 50 rfl 0 92 Tryd.underlying50 infoRD rfl (by decide) (.slice none 0 0) 0 [] [tkey home, .int .i64 n, .int .i64 0, .int .i64 0, .slice none 0 0, .slice none 0 0] ⟨wr.heap.size, 0, none⟩ 1 rfl (World.ownsRow_nil _ _ _ _) rfl rfl (RowAt.new _ _ _ _) (by simp [Value.oneCell']) (by unfold maxLen; omega) (by omega) (Nat.zero_le _) ?_; intro g5 cp5 w5 ho5 hg5 ha5; refine Stop.mk ?_)
      rw [Nat.zero_add, List.nil_append] at ho5
      have hk5 := KeptS.grown hg5
      have hb5 : Below wr.heap.size wr w5 := HBD.out.trans ((hk5.below (fun j hj => by simp [Value.ownBlock] at hj) (Nat.le_refl _)).mono HBD.out.size)
      have HX5 := hid (HX3.out.below hb5)
      have HM5 := hid (HM3.out.below hb5)
      have HK5 := hid (HK3.out.next (KeptS.of_below hb5))
      obtain ⟨g, cp, cur, eo, hgo, hc1, hc2, hsz, hcs⟩ := own_open ho5 (by decide)
      simp only [Value.slice.injEq, Option.some.injEq, Addr.mk.injEq, and_true, true_and] at eo
      obtain ⟨rfl, rfl⟩ := eo
      have hg5 : w.heap.size ≤ g5 := by
        rcases ha5 with q | q
        · simp [Value.ownBlock] at q
        · have h1 := HK3.out.size
          have h2 := HBD.out.size
          omega
      have HGO := hid hgo
      have HG5 := hid hg5
      have HCS : Hid (cur[0]? = some (tkey home) ∧ cur[1]? = some (.int .i64 n) ∧ cur[5]? = some (.slice none 0 0)) := ⟨hcs 0 (by decide), hcs 1 (by decide), hcs 5 (by decide)⟩
      have hne : g5 ≠ xb := fun e => HX5.out.ne_obj hgo (by decide) e.symm
      have c0 := ObjAt.cell HX5.out 0 (.slice none 0 0) rfl
      have f0 := ObjAt.frozen HX5.out 0
      have HX6 : Hid (ObjAt (w5.setCell ⟨xb, 0, none⟩ (.slice (some ⟨g5, 0, none⟩) 1 cp5)) xb 52 #[.slice (some ⟨g5, 0, none⟩) 1 cp5]) := ObjAt.set HX5.out 0 _
      have hks := KeptS.set (S := fun j => j = xb) w5 ⟨xb, 0, none⟩ (.slice (some ⟨g5, 0, none⟩) 1 cp5) rfl
      have HG6 := hid (hgo.keptS hks hne)
      have HM6 := hid (HM5.out.keptS hks (fun e => HX5.out.ne_obj HM5.out (by decide) e.symm))
      have HK6 := hid (HK5.out.next hks)
      have HNE := hid hne
      clear ho5 hk5 hb5 hgo hc1 hc2 hsz hcs ha5 hks hne HBD
      refine Stop.go ?_
      go_wp2_with fail
      clear c0 f0 HX5 HM5 HGO HX3 HM3 HK3 HK5
      generalize w5.setCell ⟨xb, 0, none⟩ (.slice (some ⟨g5, 0, none⟩) 1 cp5) = w6 at *
      refine (rf_find1 xb g5 cp5 home n _ HX6.out (HG6.out.cell 0 _ HCS.out.1) (HG6.out.cell 1 _ HCS.out.2.1)).mono ?_
      rintro e7 w7 ⟨rfl, rfl⟩
      have c0 := ObjAt.cell HX6.out 0 (.slice (some ⟨g5, 0, none⟩) 1 cp5) rfl
      have d5 := HG6.out.cell 5 (.slice none 0 0) HCS.out.2.2
      go_wp2_with fail
      clear c0 d5
      go_loopw [18, 19, 20] (fun a b i wr => a = .slice none 0 0 ∧ b = .bool false ∧ i = .int .i64 0 ∧ wr = w6) (fun _ _ _ _ => 0)
      case atStart => exact ⟨rfl, rfl, rfl, rfl⟩
      case round =>
        obtain ⟨rfl, rfl, rfl, rfl⟩ := hrel
        have c0 := ObjAt.cell HX6.out 0 (.slice (some ⟨g5, 0, none⟩) 1 cp5) rfl
        have d5 := HG6.out.cell 5 (.slice none 0 0) HCS.out.2.2
        have m0 := HM6.out.cell 0 (.int .i64 kind) rfl
        have m1 := HM6.out.cell 1 (tkey p) rfl
        have HBM := hid (below_new (w := wr) (.cells #[.int .i64 kind, tkey p] 86))
        go_wp2_with (at_builtin; refine wpList_app_own rfl (.tmp 193) (.tmp 195) 90 rfl 0 86 Tryd.underlying90 infoRM rfl (by decide) (.slice none 0 0) 0 [] [.int .i64 kind, tkey p] ⟨wr.heap.size, 0, none⟩ 1 rfl (World.ownsRow_nil _ _ _ _) rfl rfl (RowAt.new _ _ _ _) (by simp [Value.oneCell']) (by unfold maxLen; omega) (by omega) (Nat.zero_le _) ?_; intro g8 cp8 w8 ho8 hg8 ha8; refine Stop.mk ?_)
        have hk8 := KeptS.grown hg8
        have hb8 : Below wr.heap.size wr w8 := HBM.out.trans ((hk8.below (fun j hj => by simp [Value.ownBlock] at hj) (Nat.le_refl _)).mono HBM.out.size)
        have HX8 := hid (ObjAt.below HX6.out hb8)
        have HG8 := hid (HG6.out.below hb8)
        have HK8 := hid (HK6.out.next (KeptS.of_below hb8))
        clear ho8 hg8 ha8 hk8 hb8 c0 d5 m0 m1 HBM
        have c0 := ObjAt.cell HX8.out 0 (.slice (some ⟨g5, 0, none⟩) 1 cp5) rfl
        have d5 := HG8.out.cell 5 (.slice none 0 0) HCS.out.2.2
        have f5 := HG8.out.frozen 5
        have HK9 : Hid (KeptS (fun j => j = xb) w (w8.setCell ⟨g5, 5, none⟩ (.slice (some ⟨g8, 0, none⟩) 1 cp8))) := HK8.out.trans (KeptS.set (S := fun j => j = g5) w8 ⟨g5, 5, none⟩ (.slice (some ⟨g8, 0, none⟩) 1 cp8) rfl) (fun i hi e => by have := HG5.out; omega)
        clear HX6 HG6 HM6 HK6 HX8 HG8 HK8
        refine Stop.go ?_
        go_wp2_with fail
        go_ret
        exact ⟨⟨_, rfl⟩, HK9.out⟩
  · have e1 : (r != 0) = true := bne_iff_ne.2 hr
    clear hr
    go_wp2_with fail
    go_ret
    exact ⟨⟨_, rfl⟩, HK1.out⟩
end Go.Proofs.YtjnbflhpboheiaaDoor
