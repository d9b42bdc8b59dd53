/-
  The document's Quorum: plain part.
-/
import Derived.Test.YtmhlckicjojmoaaRecQ6
namespace Go.Proofs.Ytmhlckicjojmoaa
open Go.RowKit
set_option maxRecDepth 20000
set_option linter.unusedVariables false

theorem nodup_inj {l : List Int} (h : l.Nodup) {i j : Nat} (hi : i < l.length) (hj : j < l.length) (e : l[i] = l[j]) : i = j := by
  rcases Nat.lt_trichotomy i j with g | g | g
  · exact absurd e (List.pairwise_iff_getElem.1 h i j hi hj g)
  · exact g
  · exact absurd e.symm (List.pairwise_iff_getElem.1 h j i hj hi g)
def takB (me : Int) (q : List Int) (k : Nat) (x : Int) : Bool := x == me || (q.take k).contains x
def Bools (cu : Array Value) (ms : List Int) (f : Int → Bool) : Prop := cu.size = ms.length ∧ ∀ (m : Nat) (hm : m < ms.length), cu[m]? = some (.bool (f ms[m]))
def BestTo (lat ms : List Int) (tk : Int → Bool) (i : Nat) (b : Int) : Prop :=
  (b = -1 ∧ ∀ (j : Nat) (hj : j < ms.length), j < i → tk ms[j] = true) ∨
  ∃ (j : Nat) (hj : j < ms.length), b = j ∧ j < i ∧ tk ms[j] = false ∧ ∀ (j' : Nat) (hj' : j' < ms.length), j' < i → tk ms[j'] = false → j' = j ∨ NearR lat ms[j] ms[j']
theorem BestTo.start (lat ms : List Int) (tk : Int → Bool) : BestTo lat ms tk 0 (-1) := .inl ⟨rfl, fun _ _ h => absurd h (Nat.not_lt_zero _)⟩
theorem BestTo.skip {lat ms : List Int} {tk : Int → Bool} {i : Nat} {b : Int} (h : BestTo lat ms tk i b) (hi : i < ms.length) (ht : tk ms[i] = true) : BestTo lat ms tk (i + 1) b := by
  rcases h with ⟨rfl, h⟩ | ⟨j, hj, rfl, hji, hf, h⟩
  · refine .inl ⟨rfl, fun j hj hji => ?_⟩
    rcases Nat.lt_or_ge j i with g | g
    · exact h j hj g
    · obtain rfl : j = i := by omega
      exact ht
  · refine .inr ⟨j, hj, rfl, by omega, hf, fun j' hj' hji' hf' => ?_⟩
    rcases Nat.lt_or_ge j' i with g | g
    · exact h j' hj' g hf'
    · obtain rfl : j' = i := by omega
      rw [ht] at hf'; cases hf'
theorem BestTo.first {lat ms : List Int} {tk : Int → Bool} {i : Nat} (h : BestTo lat ms tk i (-1)) (hi : i < ms.length) (ht : tk ms[i] = false) : BestTo lat ms tk (i + 1) i := by
  rcases h with ⟨-, h⟩ | ⟨j, hj, e, -⟩
  · refine .inr ⟨i, hi, rfl, by omega, ht, fun j' hj' hji' hf' => ?_⟩
    rcases Nat.lt_or_ge j' i with g | g
    · rw [h j' hj' g] at hf'; cases hf'
    · exact .inl (by omega)
  · omega
theorem BestTo.better {lat ms : List Int} {tk : Int → Bool} {i j : Nat} (h : BestTo lat ms tk i j) (hi : i < ms.length) (hj0 : j < ms.length) (ht : tk ms[i] = false) (hn : farI lat ms[i] < farI lat ms[j]) : BestTo lat ms tk (i + 1) i := by
  rcases h with ⟨e, h⟩ | ⟨j1, hj, e, hji, hf, h⟩
  · omega
  · obtain rfl : j = j1 := by omega
    refine .inr ⟨i, hi, rfl, by omega, ht, fun j' hj' hji' hf' => ?_⟩
    rcases Nat.lt_or_ge j' i with g | g
    · right
      rcases h j' hj' g hf' with rfl | h2
      · exact .inl hn
      · exact NearR.trans _ _ _ (.inl hn) h2
    · exact .inl (by omega)
theorem BestTo.stay {lat ms : List Int} {tk : Int → Bool} {i j : Nat} (hr : RightM ms) (h : BestTo lat ms tk i j) (hi : i < ms.length) (hj0 : j < ms.length) (ht : tk ms[i] = false) (hn : ¬ farI lat ms[i] < farI lat ms[j]) : BestTo lat ms tk (i + 1) j := by
  rcases h with ⟨e, h⟩ | ⟨j1, hj, e, hji, hf, h⟩
  · omega
  · obtain rfl : j = j1 := by omega
    refine .inr ⟨j, hj, rfl, by omega, hf, fun j' hj' hji' hf' => ?_⟩
    rcases Nat.lt_or_ge j' i with g | g
    · exact h j' hj' g hf'
    · obtain rfl : j' = i := by omega
      right
      have := hr.rise hji hi
      unfold NearR
      omega
theorem BestTo.val {lat ms : List Int} {tk : Int → Bool} {i : Nat} {b : Int} (h : BestTo lat ms tk i b) : b = -1 ∨ ∃ j : Nat, b = j ∧ j < ms.length := by
  rcases h with ⟨rfl, -⟩ | ⟨j, hj, rfl, -⟩
  · exact .inl rfl
  · exact .inr ⟨j, rfl, hj⟩
/-- The best one of all is the next of the row. -/
theorem BestTo.next {lat ms q : List Int} {me : Int} {k : Nat} {b : Int} (hr : RightM ms) (hq : QuoIs ms lat me q) (hk : k < q.length) (h : BestTo lat ms (takB me q k) ms.length b) :
    ∃ (j : Nat) (hj : j < ms.length), b = j ∧ ms[j] = q[k] := by
  have hqn : q.Nodup := hq.1.nodup_iff.2 (hr.nodup.sublist List.filter_sublist)
  have hmem : ∀ x, x ∈ q ↔ x ∈ ms ∧ x ≠ me := fun x => by rw [hq.1.mem_iff]; unfold othL; simp
  have hqk := (hmem q[k]).1 (List.getElem_mem hk)
  have hfree : takB me q k q[k] = false := by
    unfold takB
    rw [Bool.or_eq_false_iff]
    refine ⟨by simpa using hqk.2, ?_⟩
    rw [← Bool.not_eq_true, List.contains_iff_mem]
    intro hm
    obtain ⟨j, hj, e⟩ := List.getElem_of_mem hm
    simp only [List.length_take] at hj
    rw [List.getElem_take] at e
    have := nodup_inj hqn (i := j) (by omega) hk e
    omega
  obtain ⟨p, hp, hpe⟩ := List.getElem_of_mem hqk.1
  rcases h with ⟨rfl, h⟩ | ⟨j, hj, rfl, -, hf, h⟩
  · have := h p hp hp
    rw [hpe, hfree] at this; cases this
  · refine ⟨j, hj, rfl, ?_⟩
    rcases h p hp hp (by rw [hpe]; exact hfree) with rfl | hn
    · exact hpe
    · rw [hpe] at hn
      unfold takB at hf
      rw [Bool.or_eq_false_iff] at hf
      have hjq : ms[j] ∈ q := (hmem _).2 ⟨List.getElem_mem hj, by simpa using hf.1⟩
      obtain ⟨s, hs, hse⟩ := List.getElem_of_mem hjq
      have hsk : k ≤ s := by
        refine Nat.le_of_not_lt fun hlt => ?_
        have : ms[j] ∈ q.take k := by
          rw [← hse]
          exact List.mem_take_iff_getElem.2 ⟨s, by omega, rfl⟩
        have h2 := hf.2
        rw [← Bool.not_eq_true, List.contains_iff_mem] at h2
        exact h2 this
      rcases Nat.lt_or_ge k s with g | g
      · have := List.pairwise_iff_getElem.1 hq.2 k s hk hs g
        rw [hse] at this
        unfold NearR at this hn
        omega
      · obtain rfl : s = k := by omega
        exact hse.symm
theorem takB_next {me : Int} {q : List Int} {k : Nat} (hk : k < q.length) (x : Int) : takB me q (k + 1) x = (takB me q k x || x == q[k]) := by
  unfold takB
  rw [List.take_succ_eq_append_getElem hk]
  rw [Bool.eq_iff_iff]
  simp only [Bool.or_eq_true, List.contains_iff_mem, List.mem_append, List.mem_singleton, beq_iff_eq]
  constructor
  · rintro (h | h | h)
    · exact .inl (.inl h)
    · exact .inl (.inr h)
    · exact .inr h
  · rintro ((h | h) | h)
    · exact .inl h
    · exact .inr (.inl h)
    · exact .inr (.inr h)
theorem Bools.take {cu : Array Value} {ms : List Int} {f g : Int → Bool} (hr : RightM ms) (h : Bools cu ms f) {j : Nat} (hj : j < ms.length) (hg : ∀ x, g x = (f x || x == ms[j])) : Bools (cu.setIfInBounds j (.bool true)) ms g := by
  refine ⟨by simpa using h.1, fun m hm => ?_⟩
  by_cases e : j = m
  · subst e
    rw [Array.getElem?_setIfInBounds_self_of_lt (by rw [h.1]; exact hj), hg]; simp
  · rw [Array.getElem?_setIfInBounds_ne e, h.2 m hm, hg]
    have : (ms[m] == ms[j]) = false := by
      refine beq_eq_false_iff_ne.2 fun h2 => ?_
      exact e (nodup_inj hr.nodup hm hj h2).symm
    rw [this, Bool.or_false]
end Go.Proofs.Ytmhlckicjojmoaa
