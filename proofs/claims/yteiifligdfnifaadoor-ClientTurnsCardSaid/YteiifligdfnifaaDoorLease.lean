/-
  Package lease: Drift's Check, Hold, Within; the document's Right, Time, Hold.
-/
import Derived.Test.YteiifligdfnifaaDoorRows
import Derived.Test.YteiifligdfnifaaDoorBase
import Derived.RegionTactic
namespace Go.Proofs.YteiifligdfnifaaDoor
open Go.RowKit
set_option maxRecDepth 20000

/-- Is it a drift? -/
def RightD (p q : Int) : Prop := 1 ≤ q ∧ q ≤ p ∧ p ≤ 1000
instance (p q : Int) : Decidable (RightD p q) := inferInstanceAs (Decidable (_ ∧ _))
/-- Is it a time? -/
def RightT (t : Int) : Prop := 0 ≤ t ∧ t ≤ 1099511627776
instance (t : Int) : Decidable (RightT t) := inferInstanceAs (Decidable (_ ∧ _))
def RightL (n : Int) : Prop := 1 ≤ n ∧ n ≤ 1048576
instance (t : Int) : Decidable (RightL t) := inferInstanceAs (Decidable (_ ∧ _))
def chk (p q : Int) : Int := if RightD p q then 0 else 180
def drift (p q : Int) : Value := .agg #[.int .i64 p, .int .i64 q]
def holdN (p q n : Int) : Int := if RightD p q then if RightL n then (n * q).tdiv p else 0 else 0
def holdE (p q n : Int) : Int := if RightD p q then if RightL n then 0 else 153 else 180

theorem drift_check (p q : Int) (w : World) : Calls Tryd.prog 52 #[drift p q] w fun e w' => e = .returned (.int .i64 (chk p q)) ∧ Below w.heap.size w w' := by
  unfold drift
  go_enter Tryd.func52, Tryd.ntmps52
  have HB := hid (below_new (w := w) (.cells #[.int .i64 p, .int .i64 q] 24 (0, 0)))
  unfold chk RightD
  by_cases h1 : q < 1
  · go_wp2
    go_ret
    exact ⟨rfl, HB.out⟩
  · by_cases h2 : p < q
    · go_wp2
      go_ret
      exact ⟨rfl, HB.out⟩
    · by_cases h3 : 1000 < p
      · go_wp2
        go_ret
        exact ⟨rfl, HB.out⟩
      · go_wp2
        go_ret
        exact ⟨rfl, HB.out⟩

theorem prod_bound {p q n : Int} (h : RightD p q) (hn : RightL n) : 1 ≤ n * q ∧ n * q ≤ n * p ∧ n * q ≤ 1048576000 := by
  obtain ⟨h1, h2, h3⟩ := h
  obtain ⟨h4, h5⟩ := hn
  have a1 : 1 * 1 ≤ n * q := Int.mul_le_mul h4 h1 (by omega) (by omega)
  have a2 : n * q ≤ n * p := Int.mul_le_mul (Int.le_refl _) h2 (by omega) (by omega)
  have a3 : n * q ≤ 1048576 * 1000 := Int.mul_le_mul h5 (by omega) (by omega) (by omega)
  omega
theorem hold_bound {p q n : Int} (h : RightD p q) (hn : RightL n) : 0 ≤ (n * q).tdiv p ∧ (n * q).tdiv p ≤ n := by
  obtain ⟨b1, b2, b3⟩ := prod_bound h hn
  have hp : 0 < p := by have := h.1; have := h.2.1; omega
  rw [Int.tdiv_eq_ediv_of_nonneg (by omega)]
  refine ⟨Int.ediv_nonneg (by omega) (by omega), ?_⟩
  exact Int.ediv_le_of_le_mul hp b2

theorem hold_ok {p q n : Int} (h : RightD p q) (hn : RightL n) : holdN p q n = (n * q).tdiv p ∧ holdE p q n = 0 := by
  unfold holdN holdE; rw [if_pos h, if_pos h, if_pos hn, if_pos hn]; exact ⟨rfl, rfl⟩
theorem hold_bad {p q n : Int} (h : RightD p q) (hn : ¬RightL n) : holdN p q n = 0 ∧ holdE p q n = 153 := by
  unfold holdN holdE; rw [if_pos h, if_pos h, if_neg hn, if_neg hn]; exact ⟨rfl, rfl⟩
theorem hold_no {p q n : Int} (h : ¬RightD p q) : holdN p q n = 0 ∧ holdE p q n = 180 := by
  unfold holdN holdE; rw [if_neg h, if_neg h]; exact ⟨rfl, rfl⟩

theorem drift_hold (p q n : Int) (w : World) : Calls Tryd.prog 65 #[drift p q, .int .i64 n] w fun e w' => e = .returned (.tuple #[.int .i64 (holdN p q n), .int .i64 (holdE p q n)]) ∧ Below w.heap.size w w' := by
  have HB := hid (below_new (w := w) (.cells #[.int .i64 p, .int .i64 q] 24 (0, 0)))
  have hd : drift p q = .agg #[.int .i64 p, .int .i64 q] := rfl
  rw [hd]
  clear hd
  go_enter Tryd.func65, Tryd.ntmps65
  go_wp2_with fail
  refine (drift_check p q _).mono ?_
  rintro e w1 ⟨rfl, hb⟩
  have HB1 := hid (below_step HB.out HB.out.size hb)
  have hcell : w1.cell? ⟨w.heap.size, 0, none⟩ = some (.int .i64 p) ∧ w1.cell? ⟨w.heap.size, 1, none⟩ = some (.int .i64 q) := by
    have r := (RowAt.new w #[.int .i64 p, .int .i64 q] 24 (0, 0)).below hb
    exact ⟨r.add 0 _ rfl, r.add 1 _ rfl⟩
  obtain ⟨hc0, hc1⟩ := hcell
  clear HB hb
  by_cases hr : RightD p q
  · have hk : chk p q = 0 := if_pos hr
    rw [hk]
    clear hk
    by_cases h1 : n < 1
    · have HN := hid (hold_bad hr (n := n) (fun h => by have := h.1; omega))
      clear hr hc0 hc1
      go_wp2
      go_ret2
      exact ⟨by rw [HN.out.1, HN.out.2]; rfl, HB1.out⟩
    · by_cases h2 : 1048576 < n
      · have HN := hid (hold_bad hr (n := n) (fun h => by have := h.2; omega))
        clear hr hc0 hc1
        go_wp2
        go_ret2
        exact ⟨by rw [HN.out.1, HN.out.2]; rfl, HB1.out⟩
      · have hl : RightL n := ⟨by omega, by omega⟩
        have HN := hid (hold_ok hr hl)
        have b := prod_bound hr hl
        have b2 := hold_bound hr hl
        have hw1 : wrap64 (n * q) = n * q := w64 (by omega) (by omega)
        have hw2 : wrap64 ((n * q).tdiv p) = (n * q).tdiv p := w64 (by omega) (by obtain ⟨_, h⟩ := hl; omega)
        have hp : p ≠ 0 := by have := hr.1; have := hr.2.1; omega
        clear hr hl b b2
        go_wp2
        go_ret2
        exact ⟨by rw [HN.out.1, HN.out.2]; show Ending.returned (.tuple #[.int .i64 (wrap64 ((n * q).tdiv p)), .int .i64 0]) = _; rw [hw2], HB1.out⟩
  · have hk : chk p q = 180 := if_neg hr
    rw [hk]
    have HN := hid (hold_no (n := n) hr)
    clear hk hr hc0 hc1
    go_wp2
    go_ret2
    exact ⟨by rw [HN.out.1, HN.out.2]; rfl, HB1.out⟩

theorem ref_right (p q : Int) (w : World) : Calls Tryd.prog 31 #[.int .i64 p, .int .i64 q] w fun e w' => e = .returned (.bool (decide (RightD p q))) ∧ w = w' := by
  go_enter Tryd.func31, Tryd.ntmps31
  unfold RightD
  by_cases h1 : 1 ≤ q <;> by_cases h2 : q ≤ p <;> by_cases h3 : p ≤ 1000 <;> go_wp2 <;> go_ret <;> simp [h1, h2, h3] <;> omega

theorem right_time (t : Int) (w : World) : Calls Tryd.prog 58 #[.int .i64 t] w fun e w' => e = .returned (.bool (decide (RightT t))) ∧ w = w' := by
  go_enter Tryd.func58, Tryd.ntmps58
  unfold RightT
  by_cases h1 : 0 ≤ t <;> by_cases h2 : t ≤ 1099511627776 <;> go_wp2 <;> go_ret <;> simp [h1, h2] <;> omega

/-- Are the two steps within the drift? -/
def WithinD (p q a b : Int) : Prop := RightD p q ∧ RightT a ∧ RightT b ∧ a * q ≤ b * p ∧ b * q ≤ a * p
instance (p q a b : Int) : Decidable (WithinD p q a b) := inferInstanceAs (Decidable (_ ∧ _))

theorem step_bound {p q a : Int} (h : RightD p q) (ha : RightT a) : wrap64 (a * q) = a * q ∧ wrap64 (a * p) = a * p := by
  obtain ⟨h1, h2, h3⟩ := h
  obtain ⟨h4, h5⟩ := ha
  have a1 : a * q ≤ 1099511627776 * 1000 := Int.mul_le_mul h5 (by omega) (by omega) (by omega)
  have a2 : a * p ≤ 1099511627776 * 1000 := Int.mul_le_mul h5 (by omega) (by omega) (by omega)
  have a3 : 0 ≤ a * q := Int.mul_nonneg h4 (by omega)
  have a4 : 0 ≤ a * p := Int.mul_nonneg h4 (by omega)
  exact ⟨w64 (by omega) (by omega), w64 (by omega) (by omega)⟩

end Go.Proofs.YteiifligdfnifaaDoor
