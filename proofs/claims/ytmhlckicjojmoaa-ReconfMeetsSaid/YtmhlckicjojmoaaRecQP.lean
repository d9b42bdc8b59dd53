/-
  Reconf, plain: insertion under way; who is near.
-/
import Derived.Test.YtmhlckicjojmoaaRecP
import Derived.Test.YtmhlckicjojmoaaObj
namespace Go.Proofs.Ytmhlckicjojmoaa
open Go.RowKit
set_option maxRecDepth 20000

def farI (lat : List Int) (r : Int) : Int := if r < lat.length then lat.getD r.toNat 0 else 0
def cmpI (x y : Int) : Int := if x < y then -1 else if y < x then 1 else 0
/-- Nearer; of two as far, the lesser one. -/
def NearR (lat : List Int) (x y : Int) : Prop := farI lat x < farI lat y ∨ (farI lat x = farI lat y ∧ x < y)
theorem NearR.trans {lat : List Int} (x y z : Int) (h : NearR lat x y) (k : NearR lat y z) : NearR lat x z := by
  unfold NearR at *; omega

/-- What lies in a block reads as ints. -/
def Cells (cur : Array Value) (l : List Int) : Prop := l.length ≤ cur.size ∧ ∀ (m : Nat) (hm : m < l.length), cur[m]? = some (.int .i64 l[m])
theorem Cells.set {cur : Array Value} {l : List Int} (h : Cells cur l) (k : Nat) (v : Int) : Cells (cur.setIfInBounds k (.int .i64 v)) (l.set k v) := by
  refine ⟨by simpa using h.1, fun m hm => ?_⟩
  simp only [List.length_set] at hm
  rw [List.getElem_set]
  by_cases e : k = m
  · subst e
    rw [Array.getElem?_setIfInBounds_self_of_lt (by have := h.1; omega), if_pos rfl]
  · rw [Array.getElem?_setIfInBounds_ne e, if_neg e]
    exact h.2 m hm
theorem Cells.row {w : World} {g : Nat} {t : TypeId} {cur : Array Value} {l : List Int} (ho : ObjAt w g t cur) (h : Cells cur l) : RowAt w (some ⟨g, 0, none⟩) (l.map (Value.int .i64)) := fun j v hv => by
  obtain ⟨hj, e⟩ := List.getElem?_eq_some_iff.1 hv
  simp only [List.length_map] at hj
  simp only [List.getElem_map] at e
  exact ⟨g, 0, rfl, by rw [Nat.zero_add]; exact ho.cell j v (by rw [h.2 j hj, e])⟩

/-- The first i are sorted. -/
structure InsO (R : Int → Int → Prop) (l0 : List Int) (i : Nat) (L : List Int) : Prop where
  perm : (L.take i).Perm (l0.take i)
  rest : L.drop i = l0.drop i
  sorted : (L.take i).Pairwise R
/-- The i-th one stands at j, ahead of it lie none that are known to be behind. -/
def InsI (R : Int → Int → Prop) (l0 : List Int) (i j : Nat) (L : List Int) : Prop :=
  ∃ a x b, a.length = j ∧ l0[i]? = some x ∧ L = a ++ (x :: b) ++ l0.drop (i + 1) ∧ (a ++ b).Perm (l0.take i) ∧ (a ++ b).Pairwise R ∧ ∀ y ∈ b, R x y
theorem InsO.start (R : Int → Int → Prop) (l0 : List Int) : InsO R l0 1 l0 := by
  refine ⟨List.Perm.refl _, rfl, ?_⟩
  cases l0 with
  | nil => simp
  | cons x l => simp
theorem InsO.len {R : Int → Int → Prop} {l0 L : List Int} {i : Nat} (h : InsO R l0 i L) (_hi : i ≤ l0.length) : L.length = l0.length := by
  have h1 := h.perm.length_eq
  have h2 := congrArg List.length h.rest
  simp only [List.length_take, List.length_drop] at h1 h2
  omega
theorem InsO.done {R : Int → Int → Prop} {l0 L : List Int} {i : Nat} (h : InsO R l0 i L) (hi : l0.length ≤ i) (hl : L.length = l0.length) : L.Perm l0 ∧ L.Pairwise R := by
  have h1 := h.perm
  have h2 := h.sorted
  rw [List.take_of_length_le (by omega), List.take_of_length_le (by omega)] at h1
  rw [List.take_of_length_le (by omega)] at h2
  exact ⟨h1, h2⟩
theorem InsO.enter {R : Int → Int → Prop} {l0 L : List Int} {i : Nat} (h : InsO R l0 i L) (hi : i < l0.length) : InsI R l0 i i L := by
  have hl := h.len (by omega)
  refine ⟨L.take i, l0[i], [], by simp; omega, by simp [hi], ?_, by simpa using h.perm, by simpa using h.sorted, by simp⟩
  conv => lhs; rw [← List.take_append_drop i L, h.rest, List.drop_eq_getElem_cons hi]
  simp
theorem InsI.len {R : Int → Int → Prop} {l0 L : List Int} {i j : Nat} (h : InsI R l0 i j L) : L.length = l0.length ∧ j ≤ i ∧ i < l0.length := by
  obtain ⟨a, x, b, rfl, hx, rfl, hp, -, -⟩ := h
  have hi := (List.getElem?_eq_some_iff.1 hx).1
  have h1 := hp.length_eq
  simp only [List.length_append, List.length_take, List.length_cons, List.length_drop] at *
  omega
/-- What stands at j and ahead of it. -/
theorem InsI.at {R : Int → Int → Prop} {l0 L : List Int} {i j : Nat} (h : InsI R l0 i (j + 1) L) : ∃ x y, L[j + 1]? = some x ∧ L[j]? = some y ∧ l0[i]? = some x ∧ y ∈ l0.take i := by
  obtain ⟨a, x, b, ha, hx, rfl, hp, -, -⟩ := h
  have hj : j < a.length := by omega
  refine ⟨x, a[j], ?_, ?_, hx, ?_⟩
  · rw [List.append_assoc, List.getElem?_append_right (by omega)]
    simp [ha]
  · rw [List.append_assoc, List.getElem?_append_left hj]
    simp
  · exact hp.mem_iff.1 (List.mem_append_left _ (List.getElem_mem hj))
theorem InsI.swap {R : Int → Int → Prop} {l0 L : List Int} {i j : Nat} {x y : Int} (h : InsI R l0 i (j + 1) L) (hx : L[j + 1]? = some x) (hy : L[j]? = some y) (hr : R x y) : InsI R l0 i j ((L.set (j + 1) y).set j x) := by
  obtain ⟨a, x', b, ha, hx', rfl, hp, hs, hb⟩ := h
  have hj : j < a.length := by omega
  rcases List.eq_nil_or_concat a with rfl | ⟨a', y', rfl⟩
  · simp at ha
  · simp only [List.concat_eq_append] at *
    have hl : a'.length = j := by simp at ha; omega
    subst hl
    have e1 : x' = x := by
      rw [List.append_assoc, List.append_assoc, List.getElem?_append_right (by simp)] at hx
      simpa using hx
    have e2 : y' = y := by
      rw [List.append_assoc, List.append_assoc, List.getElem?_append_right (by simp)] at hy
      simpa using hy
    subst e1 e2
    refine ⟨a', x', y' :: b, rfl, hx', ?_, by simpa [List.append_assoc] using hp, by simpa [List.append_assoc] using hs, ?_⟩
    · have e3 : a' ++ [y'] ++ x' :: b ++ l0.drop (i + 1) = a' ++ (y' :: x' :: (b ++ l0.drop (i + 1))) := by simp
      rw [e3, List.set_append_right _ _ (by omega), List.set_append_right _ _ (by omega)]
      simp
    · intro z hz
      rcases List.mem_cons.1 hz with rfl | hz
      · exact hr
      · exact hb z hz
theorem InsI.done {R : Int → Int → Prop} {l0 L : List Int} {i j : Nat} (tr : ∀ x y z, R x y → R y z → R x z) (h : InsI R l0 i j L) (hj : j = 0 ∨ ∃ x y, 0 < j ∧ L[j]? = some x ∧ L[j - 1]? = some y ∧ R y x) : InsO R l0 (i + 1) L := by
  obtain ⟨a, x, b, rfl, hx, rfl, hp, hs, hb⟩ := h
  obtain ⟨hi, hx'⟩ := List.getElem?_eq_some_iff.1 hx
  have hlen : (a ++ x :: b).length = i + 1 := by
    have := hp.length_eq
    simp only [List.length_append, List.length_take, List.length_cons] at *
    omega
  have ht : (a ++ x :: b ++ l0.drop (i + 1)).take (i + 1) = a ++ x :: b := by
    rw [← hlen, List.take_left]
  refine ⟨?_, ?_, ?_⟩
  · rw [ht, List.take_succ_eq_append_getElem hi, hx']
    have p1 : (a ++ x :: b).Perm (x :: (a ++ b)) := List.perm_middle
    refine p1.trans (((hp.cons x).trans ?_))
    exact (List.perm_append_singleton x _).symm
  · rw [show (a ++ x :: b ++ l0.drop (i + 1)).drop (i + 1) = l0.drop (i + 1) by rw [← hlen, List.drop_left]]
  · rw [ht]
    have hs' := List.pairwise_append.1 hs
    rw [List.pairwise_append]
    have hax : ∀ y ∈ a, R y x := by
      rcases hj with h0 | ⟨x', y, h0, hx1, hy1, hr⟩
      · have : a = [] := List.eq_nil_of_length_eq_zero h0
        subst this
        intro y hy; cases hy
      · rcases List.eq_nil_or_concat a with rfl | ⟨a', y', rfl⟩
        · simp at h0
        · simp only [List.concat_eq_append] at *
          have e1 : x' = x := by
            rw [List.append_assoc, List.getElem?_append_right (Nat.le_refl _)] at hx1
            simpa using hx1.symm
          have e2 : y' = y := by
            rw [List.append_assoc, List.append_assoc, List.getElem?_append_right (by simp)] at hy1
            simpa using hy1
          subst e1 e2
          intro z hz
          rcases List.mem_append.1 hz with hz | hz
          · exact tr _ _ _ ((List.pairwise_append.1 hs'.1).2.2 z hz y' (by simp)) hr
          · simp at hz; subst hz; exact hr
    exact ⟨hs'.1, List.pairwise_cons.2 ⟨hb, hs'.2.1⟩, fun y hy z hz => by
      rcases List.mem_cons.1 hz with rfl | hz
      · exact hax y hy
      · exact hs'.2.2 y hy z hz⟩
end Go.Proofs.Ytmhlckicjojmoaa
