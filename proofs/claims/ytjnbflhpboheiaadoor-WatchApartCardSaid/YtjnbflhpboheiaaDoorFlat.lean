/-
  A row of elements of several cells, element by element.
-/
import Derived.Test.YtjnbflhpboheiaaDoorOwn
namespace Go.Proofs.YtjnbflhpboheiaaDoor
open Go.RowKit
set_option linter.unusedVariables false

theorem flat_cell {α : Type} (f : α → List Value) (c : Nat) (hc : ∀ x, (f x).length = c) : ∀ (L : List α) (j i : Nat) (hj : j < L.length), i < c → (L.flatMap f)[j * c + i]? = (f L[j])[i]? := by
  intro L
  induction L with
  | nil => intro j i hj; simp at hj
  | cons x L ih =>
    intro j i hj hi
    rw [List.flatMap_cons]
    cases j with
    | zero => rw [List.getElem?_append_left (by rw [hc]; omega)]; simp
    | succ j =>
      rw [List.getElem?_append_right (by rw [hc, Nat.add_mul]; omega), hc, show (j + 1) * c + i - c = j * c + i by rw [Nat.add_mul]; omega, ih j i (by simpa using hj) hi]
      rfl
/-- The cells of one element. -/
theorem flat_row {α : Type} {f : α → List Value} {c : Nat} (hc : ∀ x, (f x).length = c) (h0 : 0 < c) {w : World} {a : Option Addr} {L : List α} (h : RowAt w a (L.flatMap f)) {j : Nat} (hj : j < L.length) : ∃ b o, a = some ⟨b, o, none⟩ ∧ ∀ i v, (f L[j])[i]? = some v → w.cell? ⟨b, o + j * c + i, none⟩ = some v := by
  have key : ∀ i v, (f L[j])[i]? = some v → ∃ b o, a = some ⟨b, o, none⟩ ∧ w.cell? ⟨b, o + (j * c + i), none⟩ = some v := fun i v hv => by
    have hi : i < c := by
      have := (List.getElem?_eq_some_iff.1 hv).1
      rw [hc] at this; exact this
    exact h (j * c + i) v (by rw [flat_cell f c hc L j i hj hi]; exact hv)
  obtain ⟨v0, hv0⟩ : ∃ v0, (f L[j])[0]? = some v0 := ⟨(f L[j])[0]'(by rw [hc L[j]]; exact h0), List.getElem?_eq_getElem _⟩
  obtain ⟨b, o, rfl, -⟩ := key 0 v0 hv0
  refine ⟨b, o, rfl, fun i v hv => ?_⟩
  obtain ⟨b', o', e, h1⟩ := key i v hv
  simp only [Option.some.injEq, Addr.mk.injEq, and_true] at e
  obtain ⟨rfl, rfl⟩ := e
  rw [Nat.add_assoc]; exact h1
end Go.Proofs.YtjnbflhpboheiaaDoor
