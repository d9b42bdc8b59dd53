/-
  Slices of ints; althingref01.CopyInts.
-/
import Derived.Test.YteiifligdfnifaaDoorRows
import Derived.Test.YteiifligdfnifaaDoorBase
import Derived.WalkSpells
import Derived.Laws.CopyOwn
namespace Go.Proofs.YteiifligdfnifaaDoor
open Go.RowKit
set_option maxRecDepth 20000

/-- A slice of ints. -/
def IsInts (w : World) (v : Value) (l : List Int) : Prop := ∃ a c, v = .slice a l.length c ∧ RowAt w a (l.map (Value.int .i64)) ∧ (a = none → c = 0) ∧ l.length ≤ c ∧ c ≤ maxLen
theorem IsInts.below {w w' : World} {v : Value} {l : List Int} (h : IsInts w v l) (hb : Below w.heap.size w w') : IsInts w' v l := by
  obtain ⟨a, c, h1, h2, h3⟩ := h
  exact ⟨a, c, h1, h2.below hb, h3⟩
theorem owns_ints {w : World} {base : Nat} {e : TypeId} {v : Value} {l : List Int} (h : w.ownsRow base e 1 v l.length (l.map (Value.int .i64))) : IsInts w v l := by
  have h' := h
  obtain ⟨a, c, rfl, hr, h1, h2⟩ := owns_row h
  refine ⟨a, c, rfl, hr, ?_, h1, h2⟩
  intro ha
  subst ha
  rcases h'.2 with ⟨e, _⟩ | ⟨g, cap, cur, e, _⟩
  · simp only [Value.slice.injEq] at e; exact e.2.2
  · simp at e

theorem infoInt : (Tryd.prog.info? 3).map (fun i => (i.zero, i.size, i.bytes)) = some (some (.int .i64 0), 1, 8) := by kernel_rfl

theorem splice_all (cur cs : List Value) (h : cur.length = cs.length) : splice cur 0 cs = cs := by
  unfold splice
  simp [h]

end Go.Proofs.YteiifligdfnifaaDoor
