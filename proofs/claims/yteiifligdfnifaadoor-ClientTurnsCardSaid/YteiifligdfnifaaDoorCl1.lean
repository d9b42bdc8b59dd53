/-
  A client: what lies in memory.
-/
import Derived.Test.YteiifligdfnifaaDoorOwn
import Derived.Test.YteiifligdfnifaaDoorHolder
namespace Go.Proofs.YteiifligdfnifaaDoor
open Go.RowKit
set_option maxRecDepth 20000
set_option linter.unusedVariables false

structure Cl where
  hp : Nat
  n : Int
  req : Int
  cursor : Int
  waits : Bool
  seq : Int
  call : Nat → Value
  b : Value
  first : Int
  last : Int
  busy : Bool
  home : List UInt8
  nonce : Int
  lease : Int
  sv : Value
  pat : Int
  p : Int
  q : Int
  pos : Int
  opens : Int
def clC (c : Cl) : Array Value := #[.pointer (some ⟨c.hp, 0, none⟩), .int .i64 c.n, .int .i64 c.req, .int .i64 c.cursor, .bool c.waits, .int .i64 c.seq,
  c.call 0, c.call 1, c.call 2, c.call 3, c.call 4, c.call 5, c.call 6, c.call 7, c.call 8, c.call 9, c.call 10, c.call 11, c.call 12,
  c.b, .int .i64 c.first, .int .i64 c.last, .bool c.busy, .string ⟨c.home.toArray⟩, .int .i64 c.nonce, .int .i64 c.lease, c.sv, .int .i64 c.pat, .int .i64 c.p, .int .i64 c.q, .int .i64 c.pos, .int .i64 c.opens]
structure ClAt (w : World) (cb : Nat) (c : Cl) (S : List Int) (bs : List UInt8) : Prop where
  obj : ObjAt w cb 89 (clC c)
  sv : w.ownsRow 0 3 1 c.sv S.length (S.map (Value.int .i64))
  b : w.ownsRow 0 5 1 c.b bs.length (bs.map byt)
theorem own_objG {w : World} {base : Nat} {e : TypeId} {size n : Nat} {v : Value} {xs : List Value} (h : w.ownsRow base e size v n xs) {g : Nat} (hg : v.ownBlock = some g) : ∃ cur, ObjAt w g e cur := by
  obtain ⟨h1, h2⟩ := h
  rcases h2 with ⟨rfl, -⟩ | ⟨g', cap, cur, rfl, -, hgo, -⟩
  · simp [Value.ownBlock] at hg
  · have : g' = g := by simpa [Value.ownBlock] using hg
    subst this
    exact ⟨cur, hgo⟩
theorem ClAt.keptS {S' : Nat → Prop} {w w' : World} {cb : Nat} {c : Cl} {S : List Int} {bs : List UInt8} (h : ClAt w cb c S bs) (hk : KeptS S' w w') (h1 : ¬ S' cb) (h2 : ∀ g, c.sv.ownBlock = some g → ¬ S' g) (h3 : ∀ g, c.b.ownBlock = some g → ¬ S' g) : ClAt w' cb c S bs :=
  ⟨h.obj.keptS hk h1, own_keptS h.sv hk h2, own_keptS h.b hk h3⟩
theorem ClAt.below {w w' : World} {cb : Nat} {c : Cl} {S : List Int} {bs : List UInt8} (h : ClAt w cb c S bs) (hb : Below w.heap.size w w') : ClAt w' cb c S bs :=
  h.keptS (S' := fun _ => False) (KeptS.of_below hb) (fun h => h) (fun _ _ h => h) (fun _ _ h => h)
theorem ClAt.sv_ne {w : World} {cb : Nat} {c : Cl} {S : List Int} {bs : List UInt8} (h : ClAt w cb c S bs) : ∀ g, c.sv.ownBlock = some g → g ≠ cb := fun g hg e => by
  obtain ⟨cur, ho⟩ := own_objG h.sv hg
  exact h.obj.ne_obj ho (by decide) e.symm
theorem ClAt.b_ne {w : World} {cb : Nat} {c : Cl} {S : List Int} {bs : List UInt8} (h : ClAt w cb c S bs) : ∀ g, c.b.ownBlock = some g → g ≠ cb := fun g hg e => by
  obtain ⟨cur, ho⟩ := own_objG h.b hg
  exact h.obj.ne_obj ho (by decide) e.symm
/-- A cell of the client itself is written. -/
theorem ClAt.set {w : World} {cb : Nat} {c c' : Cl} {S : List Int} {bs : List UInt8} (h : ClAt w cb c S bs) (i : Nat) (v : Value) (hc : (clC c).setIfInBounds i v = clC c') (h1 : c'.sv = c.sv) (h2 : c'.b = c.b) : ClAt (w.setCell ⟨cb, i, none⟩ v) cb c' S bs := by
  have hk := KeptS.set (S := fun j => j = cb) w ⟨cb, i, none⟩ v rfl
  refine ⟨by rw [← hc]; exact h.obj.set i v, ?_, ?_⟩
  · rw [h1]; exact own_keptS h.sv hk h.sv_ne
  · rw [h2]; exact own_keptS h.b hk h.b_ne
end Go.Proofs.YteiifligdfnifaaDoor
