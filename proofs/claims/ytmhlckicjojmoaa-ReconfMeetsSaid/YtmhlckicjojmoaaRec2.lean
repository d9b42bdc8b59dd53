/-
  Reconf: the document's Right and Place, SameInts, the members' places.
-/
import Derived.Test.YtmhlckicjojmoaaRec1
namespace Go.Proofs.Ytmhlckicjojmoaa
open Go.RowKit
set_option maxRecDepth 20000
set_option linter.unusedVariables false

def RightPostD (l : List Int) (w : World) (e : Ending) (w' : World) : Prop := ∃ b, e = .returned (.bool b) ∧ (b = true ↔ RightM l) ∧ Below w.heap.size w w'

set_option maxHeartbeats 2000000 in
theorem refr_right (a : Option Addr) (c : Nat) (l : List Int) (w : World) (hr : RowAt w a (l.map (Value.int .i64))) (hm : l.length ≤ 4611686018427387904) :
    Calls Try.prog 10 #[.slice a l.length c] w (RightPostD l w) := by
  have HR := hid hr
  clear hr
  go_enter Try.func10, Try.ntmps10
  go_wp2_with fail
  go_loopw [3] (fun i wr => ∃ k n : Nat, i = .int .i64 k ∧ k ≤ l.length ∧ Hid (RightTo l k) ∧ wr = w.drewN n) (fun i _ => l.length - (intOf i).toNat)
  case atStart => exact ⟨0, 0, rfl, Nat.zero_le _, RightTo.zero l, rfl⟩
  case round =>
    obtain ⟨k, n, rfl, hk, HT, rfl⟩ := hrel
    by_cases hlt : k < l.length
    · obtain ⟨b, o, rfl, hc⟩ := HR.out.at k (by simpa using hlt)
      simp only [List.getElem_map] at hc
      have hi1 : (0 : Int) ≤ (k : Int) := by omega
      have hi2 : (k : Int) < (l.length : Int) := by omega
      by_cases h0 : 0 < k
      · have hc0 : w.cell? ⟨b, o + (k - 1), none⟩ = some (.int .i64 l[k - 1]) := by
          obtain ⟨b', o', e, hc'⟩ := HR.out.at (k - 1) (by simp; omega)
          simp only [List.getElem_map, Option.some.injEq, Addr.mk.injEq, and_true] at e hc'
          obtain ⟨rfl, rfl⟩ := e
          exact hc'
        have hi3 : (0 : Int) ≤ (k : Int) - 1 := by omega
        have hi4 : (k : Int) - 1 < (l.length : Int) := by omega
        have e1 : decide (0 < (k : Int)) = true := decide_eq_true (by omega)
        have H1 := hid (fun h1 h2 (h3 : l[k - 1] < l[k]) => HT.out.succ hlt h1 h2 (fun _ => h3))
        have H2 : Hid (RightTo l l.length → 0 ≤ l[k] ∧ l[k] ≤ 31 ∧ l[k - 1] < l[k]) := fun h => ⟨(h k hlt hlt).1, (h k hlt hlt).2.1, (h k hlt hlt).2.2 h0⟩
        clear HR HT
        generalize l[k - 1] = y at *
        generalize l[k] = x at *
        by_cases hx0 : x < 0
        · have d1 := decide_eq_true hx0
          go_wp2_with fail
          go_quiet (fail)
          go_wp2_with fail
          go_ret
          exact ⟨false, rfl, by simp; intro h; have := (H2.out h.1).1; omega, by rw [World.drewN_drewN]; exact below_drewN' _⟩
        have d1 := decide_eq_false hx0
        by_cases hx1 : 31 < x
        · have d2 := decide_eq_true hx1
          go_wp2_with fail
          go_quiet (fail)
          go_wp2_with fail
          go_ret
          exact ⟨false, rfl, by simp; intro h; have := (H2.out h.1).2.1; omega, by rw [World.drewN_drewN]; exact below_drewN' _⟩
        have d2 := decide_eq_false hx1
        by_cases hxy : x ≤ y
        · have d3 := decide_eq_true hxy
          go_wp2_with fail
          go_quiet (fail)
          go_wp2_with fail
          go_ret
          exact ⟨false, rfl, by simp; intro h; have := (H2.out h.1).2.2; omega, by rw [World.drewN_drewN]; exact below_drewN' _⟩
        · have d3 := decide_eq_false hxy
          go_wp2_with fail
          go_quiet (fail)
          go_wp2_with fail
          go_roundw
          case rel => exact ⟨k + 1, n + nq, by go_num, by omega, H1.out (by omega) (by omega) (by omega), rfl⟩
          case measure => simp [intOf]; omega
      · obtain rfl : k = 0 := by omega
        have H1 := hid (fun h1 h2 => HT.out.succ hlt h1 h2 (fun h => by omega))
        have H2 : Hid (RightTo l l.length → 0 ≤ l[0] ∧ l[0] ≤ 31) := fun h => ⟨(h 0 hlt hlt).1, (h 0 hlt hlt).2.1⟩
        clear HR HT
        rw [Nat.add_zero] at hc
        generalize l[0] = x at *
        by_cases hx0 : x < 0
        · have d1 := decide_eq_true hx0
          go_wp2_with fail
          go_quiet (fail)
          go_wp2_with fail
          go_ret
          exact ⟨false, rfl, by simp; intro h; have := (H2.out h.1).1; omega, by rw [World.drewN_drewN]; exact below_drewN' _⟩
        have d1 := decide_eq_false hx0
        by_cases hx1 : 31 < x
        · have d2 := decide_eq_true hx1
          go_wp2_with fail
          go_quiet (fail)
          go_wp2_with fail
          go_ret
          exact ⟨false, rfl, by simp; intro h; have := (H2.out h.1).2; omega, by rw [World.drewN_drewN]; exact below_drewN' _⟩
        · have d2 := decide_eq_false hx1
          go_wp2_with fail
          go_quiet (fail)
          go_wp2_with fail
          go_roundw
          case rel => exact ⟨1, n + nq, by go_num, by omega, H1.out (by omega) (by omega), rfl⟩
          case measure => simp [intOf]; omega
    · obtain rfl : k = l.length := by omega
      by_cases h1 : 1 ≤ l.length
      · by_cases h7 : l.length ≤ 7
        · go_wp2_with fail
          go_ret
          exact ⟨_, rfl, by simp [RightM, HT.out]; omega, below_drewN' _⟩
        · go_wp2_with fail
          go_ret
          exact ⟨_, rfl, by simp [RightM, HT.out]; omega, below_drewN' _⟩
      · go_wp2_with fail
        go_ret
        exact ⟨_, rfl, by simp [RightM]; omega, below_drewN' _⟩
end Go.Proofs.Ytmhlckicjojmoaa
