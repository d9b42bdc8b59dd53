/-
  Slices of ints; SameInts.
-/
import Derived.Test.YtongefjadoidbaaInt9
namespace Go.Proofs.Ytongefjadoidbaa
open Go.RowKit
set_option maxRecDepth 20000
set_option linter.unusedVariables false

/-- A slice of ints. -/
def IsInts (w : World) (v : Value) (l : List Int) : Prop := ∃ a c, v = .slice a l.length c ∧ RowAt w a (l.map (Value.int .i64)) ∧ (a = none → c = 0) ∧ l.length ≤ c ∧ c ≤ maxLen
theorem IsInts.below {w w' : World} {v : Value} {l : List Int} (h : IsInts w v l) (hb : Below w.heap.size w w') : IsInts w' v l := by
  obtain ⟨a, c, h1, h2, h3⟩ := h
  exact ⟨a, c, h1, h2.below hb, h3⟩
theorem owns_ints {w : World} {base : Nat} {e : TypeId} {v : Value} {l : List Int} (h : w.ownsRow base e 1 v l.length (l.map (Value.int .i64))) : IsInts w v l := by
  have h' := h
  obtain ⟨a, c, rfl, hr, h1, h2⟩ := owns_row h
  refine ⟨a, c, rfl, hr, ?_, h1, h2⟩
  intro ha
  subst ha
  rcases h'.2 with ⟨e, _⟩ | ⟨g, cap, cur, e, _⟩
  · simp only [Value.slice.injEq] at e; exact e.2.2
  · simp at e

theorem ipre_succ {a b : List Int} {k : Nat} (ha : k < a.length) (hb : k < b.length) (h : a.take k = b.take k) (e : a[k] = b[k]) : a.take (k + 1) = b.take (k + 1) := by
  rw [List.take_succ_eq_append_getElem ha, List.take_succ_eq_append_getElem hb, h, e]

set_option maxHeartbeats 1000000 in
theorem same_ints (v1 v2 : Value) (l1 l2 : List Int) (w : World) (h1 : IsInts w v1 l1) (h2 : IsInts w v2 l2) (hm1 : l1.length ≤ 4611686018427387904) (hm2 : l2.length ≤ 4611686018427387904) :
    Calls Try.prog 12 #[v1, v2] w fun e w' => e = .returned (.bool (decide (l1 = l2))) ∧ Below w.heap.size w w' := by
  obtain ⟨a1, c1, rfl, hr1, -⟩ := h1
  obtain ⟨a2, c2, rfl, hr2, -⟩ := h2
  by_cases hl : l1.length = l2.length
  rotate_left
  · have HE := hid (show decide (l1 = l2) = false from decide_eq_false (by rintro rfl; exact hl rfl))
    have e0 : ((l1.length : Int) == (l2.length : Int)) = false := by rw [beq_eq_false_iff_ne]; omega
    have e1 : ((l1.length : Int) != (l2.length : Int)) = true := by unfold bne; rw [e0]; rfl
    clear hl hr1 hr2
    go_enter Try.func12, Try.ntmps12
    go_wp2_with fail
    go_ret
    exact ⟨by rw [HE.out]; rfl, Below.refl _ _⟩
  have e0 : ((l1.length : Int) == (l2.length : Int)) = true := by rw [beq_iff_eq]; omega
  have e1 : ((l1.length : Int) != (l2.length : Int)) = false := by unfold bne; rw [e0]; rfl
  have HL := hid hl
  have H1 := hid hr1
  have H2 := hid hr2
  have hle : l1.length ≤ l2.length := by omega
  clear hl hr1 hr2
  go_enter Try.func12, Try.ntmps12
  go_wp2_with fail
  clear e0 e1
  go_loopw [5] (fun i wr => ∃ (k n : Nat), i = .int .i64 k ∧ k ≤ l1.length ∧ Hid (l1.take k = l2.take k) ∧ wr = w.drewN n) (fun i _ => l1.length - (intOf i).toNat)
  case atStart => exact ⟨0, 0, rfl, Nat.zero_le _, rfl, rfl⟩
  case round =>
    obtain ⟨k, n, rfl, hk, hs, rfl⟩ := hrel
    by_cases hlt : k < l1.length
    · have hlt2 : k < l2.length := by omega
      obtain ⟨b1, o1, rfl, hc1⟩ := H1.out.at k (by simpa using hlt)
      obtain ⟨b2, o2, rfl, hc2⟩ := H2.out.at k (by simpa using hlt2)
      simp only [List.getElem_map] at hc1 hc2
      have hst := hid (ipre_succ hlt hlt2 hs.out)
      have hne : Hid (l1[k] ≠ l2[k] → decide (l1 = l2) = false) := fun h => decide_eq_false (by rintro rfl; exact h rfl)
      clear H1 H2
      generalize l1[k] = x at *
      generalize l2[k] = y at *
      go_wp2_with fail
      have hi1 : (0 : Int) ≤ (k : Int) := by omega
      have hi2 : (k : Int) < (l1.length : Int) := by omega
      have hi3 : (k : Int) < (l2.length : Int) := by omega
      by_cases hxy : x = y
      · have HXY := hid (hst.out hxy)
        have e1 : (x == y) = true := beq_iff_eq.2 hxy
        have e2 : (x != y) = false := by unfold bne; rw [e1]; rfl
        clear hxy
        go_quiet (fail)
        go_wp2_with fail
        go_roundw
        case rel => exact ⟨k + 1, n + nq, by go_num, by omega, HXY, rfl⟩
        case measure => simp [intOf]; omega
      · have HXY := hid (hne.out hxy)
        have e1 : (x == y) = false := beq_eq_false_iff_ne.2 hxy
        have e2 : (x != y) = true := by unfold bne; rw [e1]; rfl
        clear hxy
        go_quiet (fail)
        go_wp2_with fail
        go_ret
        exact ⟨by rw [HXY.out]; rfl, by rw [World.drewN_drewN]; exact below_drewN' _⟩
    · obtain rfl : k = l1.length := by omega
      go_wp2_with fail
      go_ret
      refine ⟨ret_v ?_, below_drewN' _⟩
      have : l1 = l2 := by
        have := hs.out
        rw [List.take_length, List.take_of_length_le (by have := HL.out; omega)] at this
        exact this
      rw [decide_eq_true this]; rfl

theorem same_yes (v1 v2 : Value) (l : List Int) (w : World) (h1 : IsInts w v1 l) (h2 : IsInts w v2 l) (hm : l.length ≤ 4611686018427387904) :
    Calls Try.prog 12 #[v1, v2] w fun e w' => e = .returned (.bool true) ∧ Below w.heap.size w w' :=
  (same_ints v1 v2 l l w h1 h2 hm hm).mono fun e w' h => ⟨by rw [h.1, decide_eq_true rfl], h.2⟩
theorem NewInts.ints {w w' : World} {l : List Int} {v : Value} (h : NewInts w l (.returned v) w') : IsInts w' v l := by
  obtain ⟨g, cap, cu, hv, ho, hc, h1, h2, -, -⟩ := h
  simp only [Ending.returned.injEq] at hv
  subst hv
  exact ⟨_, cap, rfl, Cells.row ho hc, (fun h => by cases h), h1, h2⟩
end Go.Proofs.Ytongefjadoidbaa
