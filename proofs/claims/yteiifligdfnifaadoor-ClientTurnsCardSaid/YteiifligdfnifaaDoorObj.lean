/-
  Blocks that are known whole, and worlds of which but one block has changed.
-/
import Derived.Test.YteiifligdfnifaaDoorBase
namespace Go.Proofs.YteiifligdfnifaaDoor
open Go.RowKit
set_option maxRecDepth 20000

/-- What lies in the block b. -/
def ObjAt (w : World) (b : Nat) (t : TypeId) (cs : Array Value) : Prop := w.heap[b]? = some (.cells cs t (0, 0))
/-- All but the block b is kept below B. -/
structure Kept (B : Nat) (b : Nat) (w w' : World) : Prop where
  os : w'.os = w.os
  tape : w'.tape = w.tape
  output : w'.output = w.output
  size : w.heap.size ≤ w'.heap.size
  block : ∀ k, k < B → k ≠ b → w'.heap[k]? = w.heap[k]?

theorem ObjAt.lt {w : World} {b : Nat} {t : TypeId} {cs : Array Value} (h : ObjAt w b t cs) : b < w.heap.size := by
  unfold ObjAt at h
  exact (Array.getElem?_eq_some_iff.mp h).1
theorem ObjAt.below {w w' : World} {b : Nat} {t : TypeId} {cs : Array Value} (h : ObjAt w b t cs) (hb : Below w.heap.size w w') : ObjAt w' b t cs := by
  have hl := h.lt
  unfold ObjAt at *
  rw [hb.block b hl]; exact h
theorem ObjAt.cell {w : World} {b : Nat} {t : TypeId} {cs : Array Value} (h : ObjAt w b t cs) (j : Nat) (v : Value) (hj : cs[j]? = some v) : w.cell? ⟨b, j, none⟩ = some v := by
  unfold ObjAt at h
  unfold World.cell?
  rw [h]; exact hj
theorem ObjAt.frozen {w : World} {b : Nat} {t : TypeId} {cs : Array Value} (h : ObjAt w b t cs) (j : Nat) : w.frozen? ⟨b, j, none⟩ = false := by
  unfold ObjAt at h
  unfold World.frozen?
  rw [h]
  simp
theorem ObjAt.set {w : World} {b : Nat} {t : TypeId} {cs : Array Value} (h : ObjAt w b t cs) (j : Nat) (v : Value) : ObjAt (w.setCell ⟨b, j, none⟩ v) b t (cs.setIfInBounds j v) := by
  unfold ObjAt at *
  unfold World.setCell
  simp [Array.getElem?_modify, h]
theorem ObjAt.new (w : World) (t : TypeId) (cs : Array Value) : ObjAt (w.alloc (.cells cs t (0, 0))) w.heap.size t cs := by
  unfold ObjAt World.alloc
  simp
theorem Kept.of_below {B b : Nat} {w w' : World} (h : Below B w w') : Kept B b w w' := ⟨h.os, h.tape, h.output, h.size, fun k hk _ => h.block k hk⟩
theorem Kept.below {B b : Nat} {w w' : World} (h : Kept B b w w') (hB : B ≤ b) : Below B w w' := ⟨h.os, h.tape, h.output, h.size, fun k hk => h.block k hk (by omega)⟩
theorem Kept.mono {B B' b : Nat} {w w' : World} (h : Kept B b w w') (hB : B' ≤ B) : Kept B' b w w' := ⟨h.os, h.tape, h.output, h.size, fun k hk hn => h.block k (by omega) hn⟩
theorem Kept.trans {B b : Nat} {a c d : World} (h : Kept B b a c) (k : Kept B b c d) : Kept B b a d :=
  ⟨k.os.trans h.os, k.tape.trans h.tape, k.output.trans h.output, Nat.le_trans h.size k.size, fun i hi hn => (k.block i hi hn).trans (h.block i hi hn)⟩
theorem Kept.set {B : Nat} (w : World) (p : Addr) (v : Value) : Kept B p.block w (w.setCell p v) :=
  ⟨rfl, rfl, rfl, by unfold World.setCell; simp, fun k _ hn => Below.heap_setCell w p v k hn⟩
theorem ObjAt.kept {w w' : World} {b b' : Nat} {t : TypeId} {cs : Array Value} (h : ObjAt w b t cs) (hk : Kept w.heap.size b' w w') (hn : b ≠ b') : ObjAt w' b t cs := by
  have hl := h.lt
  unfold ObjAt at *
  rw [hk.block b hl hn]; exact h
theorem RowAt.kept {w w' : World} {b' : Nat} {a : Option Addr} {vs : List Value} (h : RowAt w a vs) (hk : Kept w.heap.size b' w w') (hn : ∀ ad, a = some ad → ad.block ≠ b') : RowAt w' a vs := by
  intro j v hv
  obtain ⟨b, o, rfl, hc⟩ := h j v hv
  refine ⟨b, o, rfl, ?_⟩
  rw [← hc]
  exact World.cell?_of_block (w := w) (hk.block b (lt_of_cell hc) (hn _ rfl))
theorem below_kept {a b c : World} {B k : Nat} (h : Below B a b) (hk : Kept b.heap.size k b c) (hB : B ≤ k) (hs : B ≤ b.heap.size) : Below B a c :=
  h.trans ((hk.mono hs).below hB)
theorem Kept.refl (B b : Nat) (w : World) : Kept B b w w := ⟨rfl, rfl, rfl, Nat.le_refl _, fun _ _ _ => rfl⟩
end Go.Proofs.YteiifligdfnifaaDoor
