/-
  Worlds of which a set of blocks may have changed.
-/
import Derived.Test.YteiifligdfnifaaDoorMap
namespace Go.Proofs.YteiifligdfnifaaDoor
open Go.RowKit
set_option maxRecDepth 20000

/-- All but the blocks of S stands. -/
structure KeptS (S : Nat → Prop) (w w' : World) : Prop where
  os : w'.os = w.os
  tape : w'.tape = w.tape
  output : w'.output = w.output
  size : w.heap.size ≤ w'.heap.size
  block : ∀ k, k < w.heap.size → ¬ S k → w'.heap[k]? = w.heap[k]?
theorem KeptS.refl (S : Nat → Prop) (w : World) : KeptS S w w := ⟨rfl, rfl, rfl, Nat.le_refl _, fun _ _ _ => rfl⟩
theorem KeptS.mono {S T : Nat → Prop} {w w' : World} (h : KeptS S w w') (hT : ∀ k, k < w.heap.size → S k → T k) : KeptS T w w' :=
  ⟨h.os, h.tape, h.output, h.size, fun k hk hn => h.block k hk (fun hs => hn (hT k hk hs))⟩
/-- The second step may change what the first one may, and what is new. -/
theorem KeptS.trans {S T : Nat → Prop} {a b c : World} (h : KeptS S a b) (k : KeptS T b c) (hT : ∀ i, i < a.heap.size → T i → S i) : KeptS S a c :=
  ⟨k.os.trans h.os, k.tape.trans h.tape, k.output.trans h.output, Nat.le_trans h.size k.size, fun i hi hn => (k.block i (Nat.lt_of_lt_of_le hi h.size) (fun ht => hn (hT i hi ht))).trans (h.block i hi hn)⟩
theorem KeptS.next {S : Nat → Prop} {a b c : World} (h : KeptS S a b) (k : KeptS S b c) : KeptS S a c := h.trans k (fun _ _ h => h)
theorem KeptS.of_below {S : Nat → Prop} {w w' : World} (h : Below w.heap.size w w') : KeptS S w w' := ⟨h.os, h.tape, h.output, h.size, fun k hk _ => h.block k hk⟩
theorem KeptS.of_kept {S : Nat → Prop} {w w' : World} {b : Nat} (h : Kept w.heap.size b w w') (hb : S b) : KeptS S w w' :=
  ⟨h.os, h.tape, h.output, h.size, fun k hk hn => h.block k hk (fun e => hn (e ▸ hb))⟩
theorem KeptS.set {S : Nat → Prop} (w : World) (p : Addr) (v : Value) (hb : S p.block) : KeptS S w (w.setCell p v) := KeptS.of_kept (Kept.set w p v) hb
theorem KeptS.drewN {S : Nat → Prop} (w : World) (n : Nat) : KeptS S w (w.drewN n) := KeptS.of_below (below_drewN' n)
theorem KeptS.below {S : Nat → Prop} {w w' : World} {B : Nat} (h : KeptS S w w') (hS : ∀ k, S k → B ≤ k) (hB : B ≤ w.heap.size) : Below B w w' :=
  ⟨h.os, h.tape, h.output, h.size, fun k hk => h.block k (by omega) (fun hs => by have := hS k hs; omega)⟩
theorem KeptS.new {w w' : World} {B : Nat} (h : Below B w w') : KeptS (fun k => B ≤ k) w w' :=
  ⟨h.os, h.tape, h.output, h.size, fun k hk hn => h.block k (by omega)⟩
theorem ObjAt.keptS {S : Nat → Prop} {w w' : World} {b : Nat} {t : TypeId} {cs : Array Value} (h : ObjAt w b t cs) (hk : KeptS S w w') (hn : ¬ S b) : ObjAt w' b t cs := by
  have hl := h.lt
  unfold ObjAt at *
  rw [hk.block b hl hn]; exact h
theorem RowAt.keptS {S : Nat → Prop} {w w' : World} {a : Option Addr} {vs : List Value} (h : RowAt w a vs) (hk : KeptS S w w') (hn : ∀ ad, a = some ad → ¬ S ad.block) : RowAt w' a vs := by
  intro j v hv
  obtain ⟨b, o, rfl, hc⟩ := h j v hv
  refine ⟨b, o, rfl, ?_⟩
  rw [← hc]
  exact World.cell?_of_block (w := w) (hk.block b (lt_of_cell hc) (hn _ rfl))
theorem MapAt.keptS {S : Nat → Prop} {w w' : World} {m : Nat} {κ : Type} {enc : κ → Value} {l : List (κ × Value)} (h : MapAt w m enc l) (hk : KeptS S w w') (hn : ¬ S m) : MapAt w' m enc l := by
  have hl := h.lt
  obtain ⟨arr, clock, h1, h2⟩ := h
  exact ⟨arr, clock, by rw [hk.block m hl hn]; exact h1, h2⟩
theorem KeptS.cell {S : Nat → Prop} {w w' : World} (h : KeptS S w w') {p : Addr} {v : Value} (hc : w.cell? p = some v) (hn : ¬ S p.block) : w'.cell? p = some v := by
  rw [← hc]
  exact World.cell?_of_block (w := w) (h.block p.block (lt_of_cell hc) hn)
theorem ObjAt.ne_map {w : World} {b m : Nat} {t : TypeId} {cs : Array Value} {κ : Type} {enc : κ → Value} {l : List (κ × Value)} (h : ObjAt w b t cs) (k : MapAt w m enc l) : b ≠ m := by
  rintro rfl
  obtain ⟨arr, clock, h1, _⟩ := k
  unfold ObjAt at h
  rw [h1] at h
  cases h
theorem ObjAt.ne_obj {w : World} {b m : Nat} {t t' : TypeId} {cs cs' : Array Value} (h : ObjAt w b t cs) (k : ObjAt w m t' cs') (hn : t ≠ t') : b ≠ m := by
  rintro rfl
  unfold ObjAt at h k
  rw [h] at k
  injection k with k
  injection k with k1 k2
  exact hn k2
/-- A block that holds ints, l ahead. -/
def Cells (cur : Array Value) (l : List Int) : Prop := l.length ≤ cur.size ∧ ∀ (m : Nat) (hm : m < l.length), cur[m]? = some (.int .i64 l[m])
theorem Cells.set {cur : Array Value} {l : List Int} (h : Cells cur l) (k : Nat) (v : Int) : Cells (cur.setIfInBounds k (.int .i64 v)) (l.set k v) := by
  refine ⟨by simpa using h.1, fun m hm => ?_⟩
  simp only [List.length_set] at hm
  rw [List.getElem_set]
  by_cases e : k = m
  · subst e
    rw [Array.getElem?_setIfInBounds_self_of_lt (by have := h.1; omega), if_pos rfl]
  · rw [Array.getElem?_setIfInBounds_ne e, if_neg e]
    exact h.2 m hm
theorem Cells.row {w : World} {g : Nat} {t : TypeId} {cur : Array Value} {l : List Int} (ho : ObjAt w g t cur) (h : Cells cur l) : RowAt w (some ⟨g, 0, none⟩) (l.map (Value.int .i64)) := fun j v hv => by
  obtain ⟨hj, e⟩ := List.getElem?_eq_some_iff.1 hv
  simp only [List.length_map] at hj
  simp only [List.getElem_map] at e
  exact ⟨g, 0, rfl, by rw [Nat.zero_add]; exact ho.cell j v (by rw [h.2 j hj, e])⟩
end Go.Proofs.YteiifligdfnifaaDoor
