/-
  Reconf, plain: right members, places.
-/
import Derived.Test.YtmhlckicjojmoaaBase
namespace Go.Proofs.Ytmhlckicjojmoaa
open Go.RowKit
set_option maxRecDepth 20000

/-- The first k are as members must be. -/
def RightTo (l : List Int) (k : Nat) : Prop := ∀ (j : Nat) (h : j < l.length), j < k → 0 ≤ l[j] ∧ l[j] ≤ 31 ∧ ∀ h0 : 0 < j, l[j - 1] < l[j]
def RightM (l : List Int) : Prop := RightTo l l.length ∧ 1 ≤ l.length ∧ l.length ≤ 7
theorem RightTo.zero (l : List Int) : RightTo l 0 := fun _ _ h => absurd h (Nat.not_lt_zero _)
theorem RightTo.succ {l : List Int} {k : Nat} (h : RightTo l k) (hk : k < l.length) (h1 : 0 ≤ l[k]) (h2 : l[k] ≤ 31) (h3 : ∀ h0 : 0 < k, l[k - 1] < l[k]) : RightTo l (k + 1) := by
  intro j hj hjk
  rcases Nat.lt_or_ge j k with g | g
  · exact h j hj g
  · obtain rfl : j = k := by omega
    exact ⟨h1, h2, h3⟩
theorem RightTo.mono {l : List Int} {k m : Nat} (h : RightTo l k) (hm : m ≤ k) : RightTo l m := fun j hj hjm => h j hj (by omega)
/-- The members rise. -/
theorem RightM.lt {l : List Int} (h : RightM l) : ∀ (d i : Nat) (hj : i + d + 1 < l.length), l[i] < l[i + d + 1]
  | 0, i, hj => (h.1 (i + 1) hj (by omega)).2.2 (by omega)
  | d + 1, i, hj => Int.lt_trans (RightM.lt h d i (by omega)) ((h.1 (i + (d + 1) + 1) hj (by omega)).2.2 (by omega))
theorem RightM.rise {l : List Int} (h : RightM l) {i j : Nat} (hij : i < j) (hj : j < l.length) : l[i] < l[j] := by
  have := h.lt (j - i - 1) i (by omega)
  have e : i + (j - i - 1) + 1 = j := by omega
  simpa only [e] using this

/-- Where r stands; -1: nowhere. -/
def placeI (l : List Int) (r : Int) : Int := match l.findIdx? (fun x => x == r) with | some j => j | none => -1
theorem placeI_at {l : List Int} {r : Int} {k : Nat} (hk : k < l.length) (e : l[k] = r) (h : ∀ (j : Nat) (hj : j < l.length), j < k → l[j] ≠ r) : placeI l r = k := by
  unfold placeI
  have : l.findIdx? (fun x => x == r) = some k := List.findIdx?_eq_some_iff_getElem.2 ⟨hk, by simpa using e, fun j hj => by simpa using h j (by omega) hj⟩
  rw [this]
theorem placeI_none {l : List Int} {r : Int} (h : ∀ (j : Nat) (hj : j < l.length), l[j] ≠ r) : placeI l r = -1 := by
  unfold placeI
  have : l.findIdx? (fun x => x == r) = none := by
    rw [List.findIdx?_eq_none_iff]
    intro x hx
    obtain ⟨j, hj, rfl⟩ := List.getElem_of_mem hx
    simpa using h j hj
  rw [this]
theorem placeI_cases (l : List Int) (r : Int) : (placeI l r = -1 ∧ r ∉ l) ∨ ∃ (k : Nat) (hk : k < l.length), placeI l r = k ∧ l[k] = r := by
  unfold placeI
  cases h : l.findIdx? (fun x => x == r) with
  | none =>
    refine .inl ⟨rfl, fun hm => ?_⟩
    have := List.findIdx?_eq_none_iff.1 h r hm
    simp at this
  | some j =>
    obtain ⟨hj, h1, _⟩ := List.findIdx?_eq_some_iff_getElem.1 h
    exact .inr ⟨j, hj, rfl, by simpa using h1⟩
theorem placeI_mem (l : List Int) (r : Int) : 0 ≤ placeI l r ↔ r ∈ l := by
  rcases placeI_cases l r with ⟨h1, h2⟩ | ⟨k, hk, h1, h2⟩
  · rw [h1]; constructor
    · intro h; omega
    · intro h; exact absurd h h2
  · rw [h1]; constructor
    · intro _; rw [← h2]; exact List.getElem_mem hk
    · intro _; omega
theorem placeI_right {l : List Int} (h : RightM l) {k : Nat} (hk : k < l.length) : placeI l l[k] = k :=
  placeI_at hk rfl (fun j hj hjk => by have := h.rise hjk hk; omega)
end Go.Proofs.Ytmhlckicjojmoaa
