/-
  Package lease: the holder.
-/
import Derived.Test.YteiifligdfnifaaDoorLease
import Derived.Test.YteiifligdfnifaaDoorObj
namespace Go.Proofs.YteiifligdfnifaaDoor
open Go.RowKit
set_option maxRecDepth 20000

/-- A holder: its drift, and until when. -/
def HAt (w : World) (b : Nat) (p q u : Int) : Prop := ObjAt w b 112 #[.int .i64 p, .int .i64 q, .int .i64 u]

theorem new_holder (p q : Int) (w : World) : Calls Tryd.prog 26 #[drift p q] w fun e w' => Below w.heap.size w w' ∧
    (RightD p q → ∃ b, e = .returned (.tuple #[.pointer (some ⟨b, 0, none⟩), .int .i64 0]) ∧ w.heap.size ≤ b ∧ HAt w' b p q 0) ∧ (¬RightD p q → e = .returned (.tuple #[.pointer none, .int .i64 180])) := by
  have HB := hid (below_new (w := w) (.cells #[.int .i64 p, .int .i64 q] 24 (0, 0)))
  have hd : drift p q = .agg #[.int .i64 p, .int .i64 q] := rfl
  rw [hd]
  clear hd
  go_enter Tryd.func26, Tryd.ntmps26
  go_wp2_with fail
  refine (drift_check p q _).mono ?_
  rintro e w1 ⟨rfl, hb⟩
  have HB1 := hid (below_step HB.out HB.out.size hb)
  have hcell : w1.cell? ⟨w.heap.size, 0, none⟩ = some (.int .i64 p) ∧ w1.cell? ⟨w.heap.size, 1, none⟩ = some (.int .i64 q) := by
    have r := (RowAt.new w #[.int .i64 p, .int .i64 q] 24 (0, 0)).below hb
    exact ⟨r.add 0 _ rfl, r.add 1 _ rfl⟩
  obtain ⟨hc0, hc1⟩ := hcell
  clear HB hb
  by_cases hr : RightD p q
  · have hk : chk p q = 0 := if_pos hr
    rw [hk]
    have HR := hid hr
    clear hk hr
    go_wp2
    go_ret2
    refine ⟨?_, fun _ => ?_, fun h => absurd HR.out h⟩
    · exact HB1.out.alloc HB1.out.size _
    · exact ⟨w1.heap.size, rfl, HB1.out.size, ObjAt.new _ _ _⟩
  · have hk : chk p q = 180 := if_neg hr
    rw [hk]
    have HR := hid hr
    clear hk hr hc0 hc1
    go_wp2
    go_ret2
    exact ⟨HB1.out, fun h => absurd h HR.out, fun _ => rfl⟩

theorem holder_valid (b : Nat) (p q u t : Int) (w : World) (h : HAt w b p q u) : Calls Tryd.prog 46 #[.pointer (some ⟨b, 0, none⟩), .int .i64 t] w fun e w' => e = .returned (.bool (decide (RightT t) && decide (t < u))) ∧ w = w' := by
  have h2 := ObjAt.cell h 2 (.int .i64 u) rfl
  clear h
  go_enter Tryd.func46, Tryd.ntmps46
  go_wp2_with fail
  refine (right_time t _).mono ?_
  rintro e w1 ⟨rfl, rfl⟩
  by_cases hx : RightT t
  · rw [decide_eq_true hx]
    have HX := hid hx
    clear hx
    go_wp2
    go_ret
    exact ⟨by rw [decide_eq_true HX.out]; rfl, rfl⟩
  · rw [decide_eq_false hx]
    have HX := hid hx
    clear hx
    go_wp2
    go_ret
    exact ⟨by rw [decide_eq_false HX.out]; rfl, rfl⟩

/-- Until when after a renewal. -/
def renewed (p q u s n : Int) : Int := if RightD p q ∧ RightL n ∧ RightT s then max u (s + (n * q).tdiv p) else u
def renewedE (p q s n : Int) : Int := if RightD p q then if RightL n then if RightT s then 0 else 63 else 153 else 180

theorem holder_renewed (b : Nat) (p q u s n : Int) (w : World) (h : HAt w b p q u) : Calls Tryd.prog 56 #[.pointer (some ⟨b, 0, none⟩), .int .i64 s, .int .i64 n] w fun e w' =>
    e = .returned (.int .i64 (renewedE p q s n)) ∧ HAt w' b p q (renewed p q u s n) ∧ Kept w.heap.size b w w' := by
  have h0 := ObjAt.cell h 0 (.int .i64 p) rfl
  have h1 := ObjAt.cell h 1 (.int .i64 q) rfl
  have HH := hid h
  clear h
  go_enter Tryd.func56, Tryd.ntmps56
  go_wp2_with fail
  refine (drift_hold p q n _).mono ?_
  rintro e w1 ⟨rfl, hb⟩
  have HB := hid hb
  have HH1 := hid (ObjAt.below HH.out hb)
  have h2 := ObjAt.cell HH1.out 2 (.int .i64 u) rfl
  have h3 := ObjAt.frozen HH1.out 2
  clear h0 h1 hb
  by_cases hr : RightD p q
  · by_cases hl : RightL n
    · rw [(hold_ok hr hl).1, (hold_ok hr hl).2]
      go_wp2_with fail
      refine (right_time s _).mono ?_
      rintro e w2 ⟨rfl, rfl⟩
      by_cases ht : RightT s
      · rw [decide_eq_true ht]
        have hb := hold_bound hr hl
        have hw : wrap64 (s + (n * q).tdiv p) = s + (n * q).tdiv p := w64 (by have := ht.1; omega) (by have := ht.2; have := hl.2; omega)
        have HE := hid (show renewedE p q s n = 0 from by unfold renewedE; rw [if_pos hr, if_pos hl, if_pos ht])
        have HU := hid (show renewed p q u s n = max u (s + (n * q).tdiv p) from by unfold renewed; rw [if_pos ⟨hr, hl, ht⟩])
        clear hr hl ht hb
        generalize (n * q).tdiv p = k at *
        go_wp2
        case inl =>
          have hm : max u (s + k) = s + k := by omega
          go_ret
          exact ⟨by rw [HE.out]; rfl, by rw [HU.out, hm]; exact ObjAt.set HH1.out 2 (.int .i64 (s + k)), (Kept.of_below HB.out).trans (Kept.set w1 ⟨b, 2, none⟩ _)⟩
        case inr =>
          have hm : max u (s + k) = u := by omega
          go_ret
          exact ⟨by rw [HE.out]; rfl, by rw [HU.out, hm]; exact ObjAt.set HH1.out 2 (.int .i64 u), (Kept.of_below HB.out).trans (Kept.set w1 ⟨b, 2, none⟩ _)⟩
      · rw [decide_eq_false ht]
        have HE := hid (show renewedE p q s n = 63 from by unfold renewedE; rw [if_pos hr, if_pos hl, if_neg ht])
        have HU := hid (show renewed p q u s n = u from by unfold renewed; rw [if_neg (fun h => ht h.2.2)])
        clear hr hl ht h2 h3
        go_wp2
        go_ret
        exact ⟨by rw [HE.out]; rfl, by rw [HU.out]; exact HH1.out, Kept.of_below HB.out⟩
    · rw [(hold_bad hr hl).1, (hold_bad hr hl).2]
      have HE := hid (show renewedE p q s n = 153 from by unfold renewedE; rw [if_pos hr, if_neg hl])
      have HU := hid (show renewed p q u s n = u from by unfold renewed; rw [if_neg (fun h => hl h.2.1)])
      clear hr hl h2 h3
      go_wp2
      go_ret
      exact ⟨by rw [HE.out]; rfl, by rw [HU.out]; exact HH1.out, Kept.of_below HB.out⟩
  · rw [(hold_no (n := n) hr).1, (hold_no (n := n) hr).2]
    have HE := hid (show renewedE p q s n = 180 from by unfold renewedE; rw [if_neg hr])
    have HU := hid (show renewed p q u s n = u from by unfold renewed; rw [if_neg (fun h => hr h.1)])
    clear hr h2 h3
    go_wp2
    go_ret
    exact ⟨by rw [HE.out]; rfl, by rw [HU.out]; exact HH1.out, Kept.of_below HB.out⟩
end Go.Proofs.YteiifligdfnifaaDoor
