/-
  Maps: delete; the step of a range; worlds of which a set of blocks may have changed.
-/
import Derived.Test.YtdieomhddnhfoaaSessO
namespace Go.Proofs.Ytdieomhddnhfoaa
open Go.RowKit
set_option maxRecDepth 20000

theorem map_eraseIdx {α β : Type} (f : α → β) : ∀ (l : List α) (j : Nat), (l.eraseIdx j).map f = (l.map f).eraseIdx j
  | [], _ => rfl
  | _ :: _, 0 => rfl
  | a :: l, j + 1 => by simp [map_eraseIdx f l j]
section
variable {P : Program} {t : TypeId} {κ : Type} [DecidableEq κ] {enc : κ → Value}
theorem run_del {mt et : TypeId} (hm : P.underlying mt = some (.map t et)) (hk : KeyOk P t enc) {w : World} {m : Nat} {l : List (κ × Value)} (h : MapAt w m enc l) (k : κ) :
    ∃ w', (∀ t1 ty, (Builtin.delete_ #[mt, t1] ty #[.map (some m), enc k]).run P w = .ok (.tuple #[]) w') ∧ MapAt w' m enc (del l k) ∧ Kept w.heap.size m w w' ∧ w'.heap.size = w.heap.size ∧ w'.drawn = w.drawn := by
  have hlt := h.lt
  obtain ⟨arr, clock, hb, he, h1, h2, h3⟩ := h
  have hlen : arr.size = l.length := by
    have := congrArg List.length he
    simpa using this
  have hset : ∀ o, (setObj m o).run P w = .ok () { w with heap := w.heap.setIfInBounds m o } := fun o => by
    simp only [setObj, Sem.run, hb]
  have hck : ∀ e : Bool, (Instr.checkKey e 10000 t (enc k)).run P w = .ok () w := fun e => run_checkKey hk e k w
  have hfk := run_findKey hk k he w
  unfold del
  cases hf : l.findIdx? (fun p => p.1 == k) with
  | none =>
    rw [hf] at hfk
    refine ⟨_, ?_, ⟨arr, clock, ?_, he, h1, h2, h3⟩, kept_setMap (o := .map arr clock), by simp, rfl⟩
    · intro t1 ty; simp [Builtin.delete_, Sem.run_bind, run_underlying hm, Result.andThen, getObj, Sem.run, hb, hck, hfk, hset]
    · simp [hlt]
  | some j =>
    obtain ⟨hj, e⟩ := find_key hf
    have hja : j < arr.size := by omega
    rw [hf] at hfk
    have hmem : ∀ x ∈ (arr.eraseIdxIfInBounds j).toList, x ∈ arr.toList := fun x hx => by
      rw [show arr.eraseIdxIfInBounds j = arr.eraseIdx j from by simp [Array.eraseIdxIfInBounds, hja], Array.toList_eraseIdx] at hx
      exact List.mem_of_mem_eraseIdx hx
    refine ⟨_, ?_, ⟨arr.eraseIdxIfInBounds j, clock, ?_, ?_, fun x hx => h1 x (hmem x hx), ?_, ?_⟩, kept_setMap (o := .map (arr.eraseIdxIfInBounds j) clock), by simp, rfl⟩
    · intro t1 ty; simp [Builtin.delete_, Sem.run_bind, run_underlying hm, Result.andThen, getObj, Sem.run, hb, hck, hfk, hset, hj]
    · simp [hlt]
    · rw [show arr.eraseIdxIfInBounds j = arr.eraseIdx j from by simp [Array.eraseIdxIfInBounds, hja], Array.toList_eraseIdx, map_eraseIdx, map_eraseIdx, he]
    · rw [show arr.eraseIdxIfInBounds j = arr.eraseIdx j from by simp [Array.eraseIdxIfInBounds, hja], Array.toList_eraseIdx, map_eraseIdx]
      exact h2.sublist (List.eraseIdx_sublist _ _)
    · rw [map_eraseIdx]
      exact h3.sublist (List.eraseIdx_sublist _ _)
end

/-- All but the blocks of S stands. -/
structure KeptS (S : Nat → Prop) (w w' : World) : Prop where
  os : w'.os = w.os
  tape : w'.tape = w.tape
  output : w'.output = w.output
  size : w.heap.size ≤ w'.heap.size
  block : ∀ k, k < w.heap.size → ¬ S k → w'.heap[k]? = w.heap[k]?
theorem KeptS.trans {S : Nat → Prop} {a b c : World} (h : KeptS S a b) (k : KeptS S b c) : KeptS S a c :=
  ⟨k.os.trans h.os, k.tape.trans h.tape, k.output.trans h.output, Nat.le_trans h.size k.size, fun i hi hn => (k.block i (Nat.lt_of_lt_of_le hi h.size) hn).trans (h.block i hi hn)⟩
theorem KeptS.of_below {S : Nat → Prop} {w w' : World} (h : Below w.heap.size w w') : KeptS S w w' := ⟨h.os, h.tape, h.output, h.size, fun k hk _ => h.block k hk⟩
theorem KeptS.of_kept {S : Nat → Prop} {w w' : World} {b : Nat} (h : Kept w.heap.size b w w') (hb : S b) : KeptS S w w' :=
  ⟨h.os, h.tape, h.output, h.size, fun k hk hn => h.block k hk (fun e => hn (e ▸ hb))⟩
theorem KeptS.below {S : Nat → Prop} {w w' : World} {B : Nat} (h : KeptS S w w') (hS : ∀ k, S k → B ≤ k) (hB : B ≤ w.heap.size) : Below B w w' :=
  ⟨h.os, h.tape, h.output, h.size, fun k hk => h.block k (by omega) (fun hs => by have := hS k hs; omega)⟩
theorem ObjAt.keptS {S : Nat → Prop} {w w' : World} {b : Nat} {t : TypeId} {cs : Array Value} (h : ObjAt w b t cs) (hk : KeptS S w w') (hn : ¬ S b) : ObjAt w' b t cs := by
  have hl := h.lt
  unfold ObjAt at *
  rw [hk.block b hl hn]; exact h
theorem ObjAt.ne_map {w : World} {b m : Nat} {t : TypeId} {cs : Array Value} {κ : Type} {enc : κ → Value} {l : List (κ × Value)} (h : ObjAt w b t cs) (k : MapAt w m enc l) : b ≠ m := by
  rintro rfl
  obtain ⟨arr, clock, h1, _⟩ := k
  unfold ObjAt at h
  rw [h1] at h
  cases h
theorem ObjAt.ne_obj {w : World} {b m : Nat} {t t' : TypeId} {cs cs' : Array Value} (h : ObjAt w b t cs) (k : ObjAt w m t' cs') (hn : t ≠ t') : b ≠ m := by
  rintro rfl
  unfold ObjAt at h k
  rw [h] at k
  injection k with k
  injection k with k1 k2
  exact hn k2

/-- A table without the session 1 of the home "a". -/
structure GAt (w : World) (x : Parts1) (last : Int) (es : List (Int × Value)) : Prop where
  tab : ObjAt w x.bt 56 #[.map (some x.mh)]
  houses : MapAt w x.mh tkey [([97], .pointer (some ⟨x.bh, 0, none⟩))]
  house : ObjAt w x.bh 62 #[.int .i64 last, .map (some x.ml)]
  live : MapAt w x.ml ikey es
  kids : ∀ p ∈ es, p.1 ≠ 1 ∧ ∃ bs no cs, p.2 = .pointer (some ⟨bs, 0, none⟩) ∧ ObjAt w bs 50 cs ∧ cs[2]? = some (.int .i64 no)
  num : 1 ≤ last ∧ last ≤ 4611686018427387903
  ne : x.mh ≠ x.ml
theorem GAt.below {w w' : World} {x : Parts1} {n : Int} {es : List (Int × Value)} (h : GAt w x n es) (hb : Below w.heap.size w w') : GAt w' x n es :=
  ⟨h.tab.below hb, h.houses.below hb, h.house.below hb, h.live.below hb, fun p hp => by
    obtain ⟨h1, bs, no, cs, h2, h3, h4⟩ := h.kids p hp
    exact ⟨h1, bs, no, cs, h2, h3.below hb, h4⟩, h.num, h.ne⟩
theorem look_kids {κ : Type} [DecidableEq κ] {es : List (κ × Value)} {k : κ} (h : ∀ p ∈ es, p.1 ≠ k) : look es k = none := by
  unfold look
  rw [List.find?_eq_none.2 (fun p hp => by simpa using h p hp)]
  rfl
/-- Which blocks the table's calls may change. -/
def Touch (x : Parts1) (k : Nat) : Prop := k = x.mh ∨ k = x.bh ∨ k = x.ml ∨ k = x.bs
end Go.Proofs.Ytdieomhddnhfoaa
