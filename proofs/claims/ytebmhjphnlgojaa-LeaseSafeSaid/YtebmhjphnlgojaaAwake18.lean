/-
  althinglaw18.awake returns true.
-/
import Derived.Test.YtebmhjphnlgojaaHolder
namespace Go.Proofs.Ytebmhjphnlgojaa
open Go.RowKit
set_option maxRecDepth 20000

theorem awake18 (w : World) : Calls Try.prog 10 #[] w fun e w' => e = .returned (.bool true) ∧ Below w.heap.size w w' := by
  have hr1 : RightD 3 2 := by decide
  have hr2 : RightD 1 1 := by decide
  have hl1 : RightL 100 := by decide
  go_enter Try.func10, Try.ntmps10
  go_wp2_with fail
  refine (drift_hold 3 2 100 _).mono ?_
  rintro e w1 ⟨rfl, hb⟩
  rw [(hold_ok hr1 hl1).1, (hold_ok hr1 hl1).2]
  have HB := hid hb
  clear hb
  go_wp2_with fail
  refine (new_holder 1 1 _).mono ?_
  rintro e w2 ⟨hb, h1, -⟩
  obtain ⟨b, rfl, hb2, hh⟩ := h1 hr2
  clear h1
  have HH := hid hh
  have HB1 := hid (below_step HB.out HB.out.size hb)
  have hbs : w.heap.size ≤ b := Nat.le_trans HB.out.size hb2
  clear hb hh HB hr1 hr2 hl1
  go_wp2_with fail
  refine (holder_renewed b 1 1 0 5 10 _ HH.out).mono ?_
  rintro e w3 ⟨rfl, hh, hk⟩
  have e1 : renewedE 1 1 5 10 = 0 := by decide
  have e2 : renewed 1 1 0 5 10 = 15 := by decide
  rw [e1]
  rw [e2] at hh
  have HH2 := hid hh
  have HB2 := hid (below_kept HB1.out hk hbs HB1.out.size)
  clear hh hk e1 e2 HH HB1
  go_wp2_with fail
  refine (holder_until b 1 1 15 _ HH2.out).mono ?_
  rintro e w4 ⟨rfl, rfl⟩
  go_wp2
  go_ret
  exact ⟨rfl, HB2.out⟩
end Go.Proofs.Ytebmhjphnlgojaa
