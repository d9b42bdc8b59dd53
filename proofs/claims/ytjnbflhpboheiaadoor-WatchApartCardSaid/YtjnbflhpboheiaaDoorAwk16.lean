/-
  awake.
-/
import Derived.Test.YtjnbflhpboheiaaDoorWtE
namespace Go.Proofs.YtjnbflhpboheiaaDoor
open Go.RowKit Go.ChangeMaps
set_option maxRecDepth 20000
set_option linter.unusedVariables false

def awP : List UInt8 := [47, 97, 47, 120]
def awA : List Da := addA [] ([97], 1) (awP, 1)
theorem aw_add : addE [] ([97], 1) (awP, 1) = 0 := by decide +kernel
theorem aw_cnt : cntF ([(⟨1, awP⟩ : Ef)].flatMap fires) awA = 1 := by decide +kernel
theorem aw_evs : evsA (runF ([(⟨1, awP⟩ : Ef)].flatMap fires) awA) ([97], 1) = [⟨1, 1, awP⟩] := by decide +kernel
theorem Da.Ok.new (k m : List UInt8 × Int) : (withM (newDa k) m).Ok 1 := by
  refine ⟨Int.le_refl _, ?_, ?_⟩ <;> simp [withM, newDa]
theorem aw_ok : ∀ a ∈ awA, a.Ok 1 := by
  have : awA = [withM (newDa ([97], 1)) (awP, 1)] := by
    unfold awA addA
    rw [if_pos aw_add]; rfl
  rw [this]
  intro a ha
  rw [List.mem_singleton.1 ha]
  exact Da.Ok.new _ _

theorem MovedH.fresh {w w' : World} {hb mh B : Nat} {D D' : List Dk} (h : MovedH w w' hb mh D D') (hB : ∀ k, HubHas hb mh D k → B ≤ k) (hs : B ≤ w.heap.size) : Below B w w' ∧ ∀ k, HubHas hb mh D' k → B ≤ k :=
  ⟨h.2.below hB hs, fun k hk => (h.1 k hk).elim (hB k) (fun q => Nat.le_trans hs q)⟩
theorem fresh_nil {hb mh B : Nat} (h1 : B ≤ hb) (h2 : B ≤ mh) : ∀ k, HubHas hb mh [] k → B ≤ k := by
  rintro k (rfl | rfl | ⟨d, hd, -⟩)
  · exact h1
  · exact h2
  · simp at hd

set_option maxHeartbeats 2000000 in
theorem awake16 (w : World) : Calls Tryd.prog 9 #[] w fun e w' => e = .returned (.bool true) ∧ Below w.heap.size w w' := by
  go_enter Tryd.func9, Tryd.ntmps9
  go_wp2_with fail
  refine (hub_new _).mono ?_
  rintro e1 w1 ⟨hb, mh, rfl, ht, hb1, hb2, hbw⟩
  have HT := hid ht
  have HB := hid hbw
  have HK := hid (ObjAt.new w1 28 #[tkey [97], .int .i64 1])
  have HT2 := hid (HT.out.below (below_new (w := w1) (.cells #[tkey [97], .int .i64 1] 28)))
  clear ht hbw
  go_wp2_with fail
  refine (hub_Add hb mh [] ([97], 1) 1 awP _ HT2.out (fun a ha => by simp [absD] at ha)).mono ?_
  rintro e2 w2 ⟨rfl, D2, ht2, hm2, ha2⟩
  have hA : absD D2 = awA := ha2
  rw [show addE (absD []) ([97], 1) (awP, 1) = 0 from aw_add]
  obtain ⟨hbw2, hfr2⟩ := hm2.fresh (fresh_nil hb1 hb2) (by have := HB.out.size; simp; omega)
  have HB2 := hid ((HB.out.trans ((below_new (w := w1) (.cells #[tkey [97], .int .i64 1] 28)).mono HB.out.size)).trans hbw2)
  have HFR := hid hfr2
  have HA := hid hA
  have hno : ¬ HubHas hb mh [] w1.heap.size := fun e => by have := HT.out.lt _ e; omega
  have HK2 := hid (HK.out.keptS hm2.2 hno)
  have HT3 := hid ht2
  clear ht2 hm2 ha2 hbw2 hfr2 hno hA HK HT2 HB
  have HE := hid (ObjAt.new w2 33 #[.int .i64 1, tkey awP])
  have HB3 := hid (below_new (w := w2) (.cells #[.int .i64 1, tkey awP] 33))
  have HT4 := hid (HT3.out.below HB3.out)
  have HRW : Hid (RowAt (w2.alloc (.cells #[.int .i64 1, tkey awP] 33)) (some ⟨w2.heap.size, 0, none⟩) ([(⟨1, awP⟩ : Ef)].flatMap efC)) := RowAt.new _ _ _ _
  have HOF := hid (HT4.out.off HE.out (by decide) (by decide) (by decide))
  have HD2 : Hid (D2.length ≤ 1125899906842624) := by
    show _ ≤ _
    have := congrArg List.length HA.out
    unfold absD at this
    rw [List.length_map] at this
    rw [this]; decide +kernel
  go_wp2_with fail
  refine (hub_Fire hb mh D2 (some ⟨w2.heap.size, 0, none⟩) 1 [⟨1, awP⟩] 1 _ HT4.out (by rw [HA.out]; exact aw_ok) (by decide) HD2.out HRW.out (fun ad e _ => by cases e; exact HOF.out) (by simp)).mono ?_
  rintro e3 w3 ⟨rfl, D3, ht3, ha3, hm3⟩
  rw [show cntF ([(⟨1, awP⟩ : Ef)].flatMap fires) (absD D2) = 1 from by rw [HA.out]; exact aw_cnt]
  obtain ⟨hbw3, hfr3⟩ := hm3.fresh HFR.out (by have := HB2.out.size; simp; omega)
  have HB4 := hid ((HB2.out.trans (HB3.out.mono HB2.out.size)).trans hbw3)
  have hno : ¬ HubHas hb mh D2 w1.heap.size := fun e => HT3.out.off HK2.out (by decide) (by decide) (by decide) e
  have HK3 := hid ((HK2.out.below HB3.out).keptS hm3.2 hno)
  have HT5 := hid ht3
  have HEV : Hid (evsA (absD D3) ([97], 1) = [⟨1, 1, awP⟩]) := by show _ = _; rw [ha3, HA.out]; exact aw_evs
  have HOK : Hid (∀ a ∈ absD D3, a.ev.length ≤ 1073741824) := by
    show ∀ a ∈ absD D3, _
    rw [ha3, HA.out]
    intro a ha
    have := (ok_run _ aw_ok a ha).few
    omega
  clear ht3 hm3 ha3 hbw3 hfr3 hno HRW HOF HE HT4 HB3 HT3 HB2 HK2 HFR
  have k0 := HK3.out.cell 0 (tkey [97]) rfl
  have k1 := HK3.out.cell 1 (.int .i64 1) rfl
  go_wp2_with fail
  refine (hub_Queue hb mh D3 ([97], 1) _ HT5.out HOK.out).mono ?_
  rintro e4 w4 ⟨v4, rfl, ho4, hb4⟩
  rw [HEV.out] at ho4
  obtain ⟨va, vc, rfl, hr, -⟩ := own_addr ho4
  obtain ⟨b, o, rfl, hcs⟩ := flat_row evC_len (by decide) hr (j := 0) (by decide)
  have q0 : w4.cell? ⟨b, o, none⟩ = some (.int .i64 1) := hcs 0 _ rfl
  have q1 : w4.cell? ⟨b, o + 1, none⟩ = some (.int .i64 1) := hcs 1 _ rfl
  have q2 : w4.cell? ⟨b, o + 2, none⟩ = some (tkey awP) := hcs 2 _ rfl
  have HB5 := hid (HB4.out.trans (hb4.mono HB4.out.size))
  have heq := ev_eql ⟨1, 1, awP⟩ ⟨1, 1, awP⟩ w4
  rw [decide_eq_true rfl] at heq
  clear ho4 hr hcs hb4 k0 k1
  go_wp2_with fail
  go_ret
  exact ⟨rfl, HB5.out⟩
end Go.Proofs.YtjnbflhpboheiaaDoor
