/-
  IndexFunc and DeleteFunc with a predicate that is quiet.
-/
import Derived.Test.YtmhlckicjojmoaaRec5
import Derived.Lib.SliceRun
namespace Go.Proofs.Ytmhlckicjojmoaa
open Go.RowKit
set_option maxRecDepth 20000
set_option linter.unusedVariables false

def idxP (p : Int → Bool) (l : List Int) : Int := match l.findIdx? p with | some j => j | none => -1
theorem idxP_at {p : Int → Bool} {l : List Int} {k : Nat} (hk : k < l.length) (e : p l[k] = true) (h : ∀ (j : Nat) (hj : j < l.length), j < k → p l[j] = false) : idxP p l = k := by
  unfold idxP
  have : l.findIdx? p = some k := List.findIdx?_eq_some_iff_getElem.2 ⟨hk, e, fun j hj => by simpa using h j (by omega) hj⟩
  rw [this]
theorem idxP_none {p : Int → Bool} {l : List Int} (h : ∀ (j : Nat) (hj : j < l.length), p l[j] = false) : idxP p l = -1 := by
  unfold idxP
  have : l.findIdx? p = none := by
    rw [List.findIdx?_eq_none_iff]
    intro x hx
    obtain ⟨j, hj, rfl⟩ := List.getElem_of_mem hx
    exact h j hj
  rw [this]
theorem idxP_cases (p : Int → Bool) (l : List Int) : (idxP p l = -1 ∧ ∀ x ∈ l, p x = false) ∨ ∃ (k : Nat) (hk : k < l.length), idxP p l = k ∧ p l[k] = true ∧ ∀ (j : Nat) (hj : j < l.length), j < k → p l[j] = false := by
  unfold idxP
  cases h : l.findIdx? p with
  | none => exact .inl ⟨rfl, fun x hx => by simpa using List.findIdx?_eq_none_iff.1 h x hx⟩
  | some j =>
    obtain ⟨hj, h1, h2⟩ := List.findIdx?_eq_some_iff_getElem.1 h
    exact .inr ⟨j, hj, rfl, h1, fun i hi hij => by simpa using h2 i hij⟩

/-- What DeleteFunc has done when it looks at place j: i are kept. -/
structure DelInv (p : Int → Bool) (l : List Int) (i j : Nat) (cur : Array Value) : Prop where
  size : l.length ≤ cur.size
  lt : i < j
  le : j ≤ l.length
  cnt : i = ((l.take j).filter fun x => !p x).length
  low : ∀ (m : Nat), m < i → cur[m]? = (((l.take j).filter fun x => !p x)[m]?).map (Value.int .i64)
  high : ∀ (m : Nat) (hm : m < l.length), j ≤ m → cur[m]? = some (.int .i64 l[m])
theorem DelInv.start {p : Int → Bool} {l : List Int} {k : Nat} {cur : Array Value} (hk : k < l.length) (e : p l[k] = true) (h : ∀ (j : Nat) (hj : j < l.length), j < k → p l[j] = false) (hs : l.length ≤ cur.size)
    (hc : ∀ (m : Nat) (hm : m < l.length), cur[m]? = some (.int .i64 l[m])) : DelInv p l k (k + 1) cur := by
  have hf : (l.take (k + 1)).filter (fun x => !p x) = l.take k := by
    rw [List.take_succ_eq_append_getElem hk, List.filter_append]
    rw [List.filter_eq_self.2 (fun x hx => by
      obtain ⟨j, hj, rfl⟩ := List.getElem_of_mem hx
      simp only [List.length_take] at hj
      rw [List.getElem_take, h j (by omega) (by omega)]; rfl)]
    simp [e]
  refine ⟨hs, Nat.lt_succ_self _, hk, by rw [hf]; simp; omega, fun m hm => ?_, fun m hm _ => hc m hm⟩
  rw [hf, hc m (by omega), List.getElem?_take_of_lt hm, List.getElem?_eq_getElem (by omega)]; rfl
theorem DelInv.drop {p : Int → Bool} {l : List Int} {i j : Nat} {cur : Array Value} (h : DelInv p l i j cur) (hj : j < l.length) (e : p l[j] = true) : DelInv p l i (j + 1) cur := by
  have hf : (l.take (j + 1)).filter (fun x => !p x) = (l.take j).filter (fun x => !p x) := by
    rw [List.take_succ_eq_append_getElem hj, List.filter_append]; simp [e]
  exact ⟨h.size, by have := h.lt; omega, hj, by rw [hf]; exact h.cnt, by rw [hf]; exact h.low, fun m hm hjm => h.high m hm (by omega)⟩
theorem DelInv.keep {p : Int → Bool} {l : List Int} {i j : Nat} {cur : Array Value} (h : DelInv p l i j cur) (hj : j < l.length) (e : p l[j] = false) : DelInv p l (i + 1) (j + 1) (cur.setIfInBounds i (.int .i64 l[j])) := by
  have hf : (l.take (j + 1)).filter (fun x => !p x) = (l.take j).filter (fun x => !p x) ++ [l[j]] := by
    rw [List.take_succ_eq_append_getElem hj, List.filter_append]; simp [e]
  have hlt := h.lt
  have hsz := h.size
  have hic := h.cnt
  refine ⟨by simpa using h.size, by omega, hj, by rw [hf]; simp; exact hic, fun m hm => ?_, fun m hm hjm => ?_⟩
  · rw [hf]
    rcases Nat.lt_or_ge m i with g | g
    · rw [Array.getElem?_setIfInBounds_ne (by omega), h.low m g, List.getElem?_append_left (by omega)]
    · obtain rfl : m = i := by omega
      rw [Array.getElem?_setIfInBounds_self_of_lt (by omega), List.getElem?_append_right (by omega), hic]
      simp
  · rw [Array.getElem?_setIfInBounds_ne (by omega)]
    exact h.high m hm (by omega)
end Go.Proofs.Ytmhlckicjojmoaa
