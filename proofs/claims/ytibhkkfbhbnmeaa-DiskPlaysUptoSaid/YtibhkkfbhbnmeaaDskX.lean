/-
  DiskBound: the sum over the sorted names, and their order.
-/
import Derived.Test.YtibhkkfbhbnmeaaDskG
import Derived.Test.YtibhkkfbhbnmeaaDskB
namespace Go.Proofs.Ytibhkkfbhbnmeaa
open Go.RowKit
set_option linter.unusedVariables false

def lenA (A : List Ab) (nm : List UInt8) : Nat := ((A.find? fun a => decide (a.1 = nm)).map fun a => a.2.1.length).getD 0
def sumTo (A : List Ab) (ns : List (List UInt8)) (i : Nat) : Nat := ((ns.take i).map (lenA A)).sum
theorem lenA_mem {A : List Ab} (h : (A.map Prod.fst).Nodup) {a : Ab} (ha : a ∈ A) : lenA A a.1 = a.2.1.length := by
  unfold lenA
  cases hf : A.find? (fun b => decide (b.1 = a.1)) with
  | none => exact absurd (List.find?_eq_none.1 hf a ha) (by simp)
  | some b =>
    have h1 := List.mem_of_find?_eq_some hf
    have h2 : b.1 = a.1 := by simpa using List.find?_some hf
    rw [nd_eq h h1 ha h2]; rfl
theorem lens_all {A : List Ab} (h : (A.map Prod.fst).Nodup) : (A.map Prod.fst).map (lenA A) = A.map fun a => a.2.1.length := by
  rw [List.map_map]
  exact List.map_congr_left fun a ha => lenA_mem h ha
theorem sumTo_all {A : List Ab} (h : (A.map Prod.fst).Nodup) : sumTo A (sortL (A.map Prod.fst)) (sortL (A.map Prod.fst)).length = sumA A := by
  unfold sumTo sumA
  rw [List.take_length, ← lens_all h]
  exact ((List.mergeSort_perm _ _).map _).sum_nat
theorem sumTo_succ (A : List Ab) (ns : List (List UInt8)) (i : Nat) (h : i < ns.length) : sumTo A ns (i + 1) = sumTo A ns i + lenA A ns[i] := by
  unfold sumTo
  rw [List.take_succ_eq_append_getElem h, List.map_append, List.sum_append]; simp
theorem take_sum_le (l : List Nat) (i : Nat) : (l.take i).sum ≤ l.sum := by
  conv => rhs; rw [← List.take_append_drop i l, List.sum_append]
  omega
theorem sumTo_le {A : List Ab} (h : (A.map Prod.fst).Nodup) (i : Nat) : sumTo A (sortL (A.map Prod.fst)) i ≤ sumA A := by
  rw [← sumTo_all h]
  unfold sumTo
  rw [List.take_length, List.map_take]
  exact take_sum_le _ _
def lastOf (ns : List (List UInt8)) : Nat → List UInt8
  | 0 => []
  | i + 1 => (ns[i]?).getD []
theorem sortL_sorted (l : List (List UInt8)) : (sortL l).Pairwise (· ≤ ·) := by
  have := List.pairwise_mergeSort (le := fun x y : List UInt8 => decide (x ≤ y)) (fun a b c h1 h2 => by simp only [decide_eq_true_eq] at *; exact List.le_trans h1 h2) (fun a b => by simpa using List.le_total a b) l
  exact this.imp (fun h => by simpa using h)
theorem last_lt {l : List (List UInt8)} (h : l.Nodup) (hn : ∀ x ∈ l, x ≠ []) {i : Nat} (hi : i < (sortL l).length) : lastOf (sortL l) i < (sortL l)[i] := by
  cases i with
  | zero =>
    have hm : (sortL l)[0] ∈ l := (List.mergeSort_perm _ _).mem_iff.1 (List.getElem_mem hi)
    have := hn _ hm
    show ([] : List UInt8) < _
    generalize (sortL l)[0] = x at *
    cases x with
    | nil => exact absurd rfl this
    | cons c x => exact List.nil_lt_cons _ _
  | succ i =>
    have hi' : i < (sortL l).length := by omega
    show (((sortL l)[i]?).getD []) < _
    rw [List.getElem?_eq_getElem hi']
    have hs := (List.pairwise_iff_getElem.1 (sortL_sorted l)) i (i + 1) hi' hi (by omega)
    have hd := (List.pairwise_iff_getElem.1 (((List.mergeSort_perm l (fun x y => decide (x ≤ y))).nodup_iff).2 h)) i (i + 1) hi' hi (by omega)
    rcases List.le_iff_lt_or_eq.1 hs with h | h
    · exact h
    · exact absurd h hd
theorem sort_mem {l : List (List UInt8)} {x : List UInt8} : x ∈ sortL l ↔ x ∈ l := (List.mergeSort_perm _ _).mem_iff
end Go.Proofs.Ytibhkkfbhbnmeaa
