/-
  Maps: delete.
-/
import Derived.Test.YtjnbflhpboheiaaDoorMap
namespace Go.Proofs.YtjnbflhpboheiaaDoor
open Go.RowKit
set_option maxRecDepth 20000

theorem map_eraseIdx {α β : Type} (f : α → β) : ∀ (l : List α) (j : Nat), (l.eraseIdx j).map f = (l.map f).eraseIdx j
  | [], _ => rfl
  | _ :: _, 0 => rfl
  | a :: l, j + 1 => by simp [map_eraseIdx f l j]
section
variable {P : Program} {t : TypeId} {κ : Type} [DecidableEq κ] {enc : κ → Value}
theorem run_del {mt et : TypeId} (hm : P.underlying mt = some (.map t et)) (hk : KeyOk P t enc) {w : World} {m : Nat} {l : List (κ × Value)} (h : MapAt w m enc l) (k : κ) :
    ∃ w', (∀ t1 ty, (Builtin.delete_ #[mt, t1] ty #[.map (some m), enc k]).run P w = .ok (.tuple #[]) w') ∧ MapAt w' m enc (del l k) ∧ Kept w.heap.size m w w' ∧ w'.heap.size = w.heap.size ∧ w'.drawn = w.drawn := by
  have hlt := h.lt
  obtain ⟨arr, clock, hb, he, h1, h2, h3⟩ := h
  have hlen : arr.size = l.length := by
    have := congrArg List.length he
    simpa using this
  have hset : ∀ o, (setObj m o).run P w = .ok () { w with heap := w.heap.setIfInBounds m o } := fun o => by
    simp only [setObj, Sem.run, hb]
  have hck : ∀ e : Bool, (Instr.checkKey e 10000 t (enc k)).run P w = .ok () w := fun e => run_checkKey hk e k w
  have hfk := run_findKey hk k he w
  unfold del
  cases hf : l.findIdx? (fun p => p.1 == k) with
  | none =>
    rw [hf] at hfk
    refine ⟨_, ?_, ⟨arr, clock, ?_, he, h1, h2, h3⟩, kept_setMap (o := .map arr clock), by simp, rfl⟩
    · intro t1 ty; simp [Builtin.delete_, Sem.run_bind, run_underlying hm, Result.andThen, getObj, Sem.run, hb, hck, hfk, hset]
    · simp [hlt]
  | some j =>
    obtain ⟨hj, e⟩ := find_key hf
    have hja : j < arr.size := by omega
    rw [hf] at hfk
    have hmem : ∀ x ∈ (arr.eraseIdxIfInBounds j).toList, x ∈ arr.toList := fun x hx => by
      rw [show arr.eraseIdxIfInBounds j = arr.eraseIdx j from by simp [Array.eraseIdxIfInBounds, hja], Array.toList_eraseIdx] at hx
      exact List.mem_of_mem_eraseIdx hx
    refine ⟨_, ?_, ⟨arr.eraseIdxIfInBounds j, clock, ?_, ?_, fun x hx => h1 x (hmem x hx), ?_, ?_⟩, kept_setMap (o := .map (arr.eraseIdxIfInBounds j) clock), by simp, rfl⟩
    · intro t1 ty; simp [Builtin.delete_, Sem.run_bind, run_underlying hm, Result.andThen, getObj, Sem.run, hb, hck, hfk, hset, hj]
    · simp [hlt]
    · rw [show arr.eraseIdxIfInBounds j = arr.eraseIdx j from by simp [Array.eraseIdxIfInBounds, hja], Array.toList_eraseIdx, map_eraseIdx, map_eraseIdx, he]
    · rw [show arr.eraseIdxIfInBounds j = arr.eraseIdx j from by simp [Array.eraseIdxIfInBounds, hja], Array.toList_eraseIdx, map_eraseIdx]
      exact h2.sublist (List.eraseIdx_sublist _ _)
    · rw [map_eraseIdx]
      exact h3.sublist (List.eraseIdx_sublist _ _)
end

end Go.Proofs.YtjnbflhpboheiaaDoor
