/-
  Maps: stores of what is there already, of a new key; look-ups of members.
-/
import Derived.Test.YtjnbflhpboheiaaDoorMapD
namespace Go.Proofs.YtjnbflhpboheiaaDoor
open Go.RowKit
set_option maxRecDepth 20000
set_option linter.unusedVariables false

theorem inj_of_nodup {α β : Type} {f : α → β} {l : List α} (h : (l.map f).Nodup) {x y : α} (hx : x ∈ l) (hy : y ∈ l) (e : f x = f y) : x = y := by
  induction l with
  | nil => simp at hx
  | cons z l ih =>
    simp only [List.map_cons, List.nodup_cons] at h
    rcases List.mem_cons.1 hx with rfl | hx' <;> rcases List.mem_cons.1 hy with rfl | hy'
    · rfl
    · exact absurd (List.mem_map.2 ⟨y, hy', e.symm⟩) h.1
    · exact absurd (List.mem_map.2 ⟨x, hx', e⟩) h.1
    · exact ih h.2 hx' hy'
theorem upd_is {κ : Type} [DecidableEq κ] {l : List (κ × Value)} {k : κ} {v : Value} (h : look l k = some v) : upd l k v = l := by
  rw [look_idx] at h
  unfold upd
  cases hf : l.findIdx? (fun p => p.1 == k) with
  | none => rw [hf] at h; cases h
  | some j =>
    rw [hf] at h
    obtain ⟨hj, e⟩ := find_key hf
    simp only [Option.bind_some, List.getElem?_eq_getElem hj, Option.map_some, Option.some.injEq] at h
    show l.set j (k, v) = l
    rw [← e, ← h]
    exact List.set_getElem_self hj
theorem upd_add {κ : Type} [DecidableEq κ] {l : List (κ × Value)} {k : κ} {v : Value} (h : k ∉ l.map (·.1)) : upd l k v = l ++ [(k, v)] := by
  unfold upd
  cases hf : l.findIdx? (fun p => p.1 == k) with
  | none => rfl
  | some j =>
    obtain ⟨hj, e⟩ := find_key hf
    exact absurd (List.mem_map.2 ⟨l[j], List.getElem_mem hj, e⟩) h
theorem look_mem {κ : Type} [DecidableEq κ] {l : List (κ × Value)} (hn : (l.map (·.1)).Nodup) {k : κ} {v : Value} (h : (k, v) ∈ l) : look l k = some v := by
  unfold look
  cases e : l.find? (fun p => p.1 == k) with
  | none =>
    have := List.find?_eq_none.1 e (k, v) h
    simp at this
  | some p =>
    have h1 := List.mem_of_find?_eq_some e
    have h2 : p.1 = k := by simpa using List.find?_some e
    have := inj_of_nodup hn h1 h (by exact h2)
    rw [this]; rfl
theorem look_not {κ : Type} [DecidableEq κ] {l : List (κ × Value)} {k : κ} (h : k ∉ l.map (·.1)) : look l k = none := by
  unfold look
  cases e : l.find? (fun p => p.1 == k) with
  | none => rfl
  | some p =>
    have h1 := List.mem_of_find?_eq_some e
    have h2 : p.1 = k := by simpa using List.find?_some e
    exact absurd (List.mem_map.2 ⟨p, h1, h2⟩) h
/-- A map's entries without a key. -/
theorem del_filter {κ : Type} [DecidableEq κ] {l : List (κ × Value)} {k : κ} (hn : (l.map (·.1)).Nodup) : del l k = l.filter fun p => decide (p.1 ≠ k) := by
  have go : ∀ l : List (κ × Value), (l.map (·.1)).Nodup → (match l.findIdx? (fun p => p.1 == k) with | some j => l.eraseIdx j | none => l) = l.filter fun p => decide (p.1 ≠ k) := by
    intro l
    induction l with
    | nil => intro _; rfl
    | cons p l ih =>
      intro h
      simp only [List.map_cons, List.nodup_cons] at h
      rw [List.findIdx?_cons]
      by_cases e : p.1 = k
      · have e1 : (p.1 == k) = true := beq_iff_eq.2 e
        have e2 : l.filter (fun p => decide (p.1 ≠ k)) = l := List.filter_eq_self.2 fun q hq => by
          have : q.1 ≠ k := fun e' => h.1 (List.mem_map.2 ⟨q, hq, e'.trans e.symm⟩)
          simp [this]
        rw [e1, List.filter_cons_of_neg (by simp [e]), e2]
        rfl
      · have e1 : (p.1 == k) = false := beq_eq_false_iff_ne.2 e
        rw [e1, List.filter_cons_of_pos (by simp [e]), ← ih h.2]
        cases l.findIdx? (fun p => p.1 == k) with
        | none => rfl
        | some j => rfl
  unfold del
  exact go l hn
end Go.Proofs.YtjnbflhpboheiaaDoor
