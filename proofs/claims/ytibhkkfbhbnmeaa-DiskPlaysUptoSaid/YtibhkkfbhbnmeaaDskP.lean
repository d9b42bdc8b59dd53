/-
  Files' names, as plain functions.
-/
import Derived.Test.YtibhkkfbhbnmeaaBase
namespace Go.Proofs.Ytibhkkfbhbnmeaa
open Go.RowKit

/-- Which bytes a file's name may have. -/
def nameC (n : Nat) : Bool := (decide (97 ≤ n) && decide (n ≤ 122)) || (decide (48 ≤ n) && decide (n ≤ 57)) || decide (n = 46) || decide (n = 45)
def fname (l : List UInt8) : Bool := decide (1 ≤ l.length) && decide (l.length ≤ 40) && l.all fun c => nameC c.toNat
theorem fname_short {l : List UInt8} (h : fname l = true) : 1 ≤ l.length ∧ l.length ≤ 40 := by
  unfold fname at h
  simp only [Bool.and_eq_true, decide_eq_true_eq] at h
  exact h.1
end Go.Proofs.Ytibhkkfbhbnmeaa
