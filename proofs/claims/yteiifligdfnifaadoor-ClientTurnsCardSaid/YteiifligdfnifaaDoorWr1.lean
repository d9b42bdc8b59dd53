/-
  wire.Writer's buffer (bytes.Buffer, only written): tryGrowByReslice, grow.
-/
import Derived.Test.YteiifligdfnifaaDoorOwn
import Derived.Test.YteiifligdfnifaaDoorJoin
import Derived.Test.YteiifligdfnifaaDoorShelf
import Derived.Lib.BufferWrite
import Derived.Laws.IdiomCopy
import Derived.Laws.MakeOwn
import Derived.RegionTactic
import Derived.Deep.RegionWith
import Derived.Deep.Draws
import Derived.BigCall
import Derived.BigGuard
namespace Go.Proofs.YteiifligdfnifaaDoor
open Go.RowKit
set_option maxRecDepth 100000
set_option linter.unusedVariables false

theorem undrew {w w' : World} (h : Below w.drew.heap.size w.drew w') : Below w.heap.size w w' := ⟨h.os, h.tape, h.output, h.size, h.block⟩
/-- The cells of a writer. -/
abbrev wcells (v : Value) (lr : Int) (bad : Bool) : Array Value := #[v, .int .i64 0, .int .i8 lr, .bool bad]
/-- The block b is a writer, which holds bs; its bytes lie in the row g. -/
structure WrAt (w : World) (b : Nat) (g : Option Nat) (bs : List Value) (bad : Bool) : Prop where
  ex : ∃ v lr, ObjAt w b 130 (wcells v lr bad) ∧ w.ownsRow 0 5 1 v bs.length bs ∧ v.ownBlock = g
  ne : g ≠ some b
  full : g ≠ none → bs ≠ []

theorem WrAt.cases {w : World} {b : Nat} {g : Option Nat} {bs : List Value} {bad : Bool} (h : WrAt w b g bs bad) :
    ∃ lr, (g = none ∧ bs = [] ∧ ObjAt w b 130 (wcells (.slice none 0 0) lr bad)) ∨
      ∃ k cap cur, g = some k ∧ ObjAt w b 130 (wcells (.slice (some ⟨k, 0, none⟩) bs.length cap) lr bad) ∧ w.heap[k]? = some (.cells cur 5 (0, 0)) ∧ bs.length ≤ cap ∧ cap ≤ maxLen ∧ cur.size = cap ∧ cur.toList.take bs.length = bs ∧ k ≠ b ∧ 1 ≤ bs.length := by
  obtain ⟨v, lr, ho, hw, hv⟩ := h.ex
  refine ⟨lr, ?_⟩
  rcases hw.2 with ⟨rfl, h0⟩ | ⟨k, cap, cur, rfl, hBg, hg, hnc, hcm, hcs, htk⟩
  · exact Or.inl ⟨hv.symm, List.eq_nil_of_length_eq_zero h0, ho⟩
  · refine Or.inr ⟨k, cap, cur, hv.symm, ho, hg, hnc, hcm, by simpa using hcs, by simpa using htk, fun e => h.ne (by rw [← hv]; simp [Value.ownBlock, e]), ?_⟩
    have := h.full (by rw [← hv]; simp [Value.ownBlock])
    cases bs with
    | nil => exact absurd rfl this
    | cons x l => simp
theorem WrAt.mk' {w : World} {b k cap : Nat} {lr : Int} {cur : Array Value} {bs : List Value} {bad : Bool} (ho : ObjAt w b 130 (wcells (.slice (some ⟨k, 0, none⟩) bs.length cap) lr bad)) (hg : w.heap[k]? = some (.cells cur 5 (0, 0)))
    (hnc : bs.length ≤ cap) (hcm : cap ≤ maxLen) (hcs : cur.size = cap) (htk : cur.toList.take bs.length = bs) (hkb : k ≠ b) (h1 : 1 ≤ bs.length) : WrAt w b (some k) bs bad :=
  ⟨⟨_, lr, ho, ⟨by simp, .inr ⟨k, cap, cur, rfl, Nat.zero_le _, hg, hnc, hcm, by simpa using hcs, by simpa using htk⟩⟩, rfl⟩, fun e => hkb (Option.some.inj e), fun _ e => by rw [e] at h1; simp at h1⟩

/-- Which blocks a writer's call may change. -/
def WB (b : Nat) (g : Option Nat) (k : Nat) : Prop := k = b ∨ g = some k

theorem WrAt.keptS {S : Nat → Prop} {w w' : World} {b : Nat} {g : Option Nat} {bs : List Value} {bad : Bool} (h : WrAt w b g bs bad) (hk : KeptS S w w') (hn : ∀ k, WB b g k → ¬ S k) : WrAt w' b g bs bad := by
  obtain ⟨v, lr, ho, hw, hv⟩ := h.ex
  exact ⟨⟨v, lr, ho.keptS hk (hn b (.inl rfl)), own_keptS hw hk (fun k e => hn k (.inr (hv.symm.trans e))), hv⟩, h.ne, h.full⟩
theorem WrAt.below {w w' : World} {b : Nat} {g : Option Nat} {bs : List Value} {bad : Bool} (h : WrAt w b g bs bad) (hb : Below w.heap.size w w') : WrAt w' b g bs bad :=
  h.keptS (S := fun _ => False) (KeptS.of_below hb) (fun _ _ h => h)
theorem WrAt.lt {w : World} {b : Nat} {g : Option Nat} {bs : List Value} {bad : Bool} (h : WrAt w b g bs bad) : ∀ k, WB b g k → k < w.heap.size := by
  obtain ⟨v, lr, ho, hw, hv⟩ := h.ex
  rintro k (rfl | hk)
  · exact ho.lt
  · exact (hw.lt k (hv.trans hk)).2

theorem tryGrow_room (b : Nat) (ao : Option Addr) (l cap n : Nat) (w : World) (c0 : w.cell? ⟨b, 0, none⟩ = some (.slice ao l cap)) (f0 : w.frozen? ⟨b, 0, none⟩ = false) (hlc : l ≤ cap) (hcap : cap ≤ maxLen) (hn : n ≤ cap - l) :
    Calls Tryd.prog 68 #[.pointer (some ⟨b, 0, none⟩), .int .i64 n] w fun e w' => e = .returned (.tuple #[.int .i64 l, .bool true]) ∧ w' = w.setCell ⟨b, 0, none⟩ (.slice ao (l + n) cap) := by
  unfold maxLen at hcap
  go_enter Tryd.func68, Tryd.ntmps68
  go_wp2
  go_ret2
  exact ⟨rfl, rfl⟩
theorem tryGrow_none (b : Nat) (ao : Option Addr) (l cap n : Nat) (w : World) (c0 : w.cell? ⟨b, 0, none⟩ = some (.slice ao l cap)) (hlc : l ≤ cap) (hcap : cap ≤ maxLen) (hn : cap - l < n) :
    Calls Tryd.prog 68 #[.pointer (some ⟨b, 0, none⟩), .int .i64 n] w fun e w' => e = .returned (.tuple #[.int .i64 0, .bool false]) ∧ w' = w := by
  unfold maxLen at hcap
  go_enter Tryd.func68, Tryd.ntmps68
  go_wp2
  go_ret2
  exact ⟨rfl, rfl⟩
theorem buf_len (b : Nat) (ao : Option Addr) (l cap : Nat) (w : World) (c0 : w.cell? ⟨b, 0, none⟩ = some (.slice ao l cap)) (c1 : w.cell? ⟨b, 1, none⟩ = some (.int .i64 0)) (hl : l ≤ maxLen) :
    Calls Tryd.prog 71 #[.pointer (some ⟨b, 0, none⟩)] w fun e w' => e = .returned (.int .i64 l) ∧ ∃ n, w' = w.drewN n := by
  unfold maxLen at hl
  go_enter Tryd.func71, Tryd.ntmps71
  go_wp2
  go_region
  all_goals (go_wp2; go_ret; exact ⟨by simp, 1, rfl⟩)

theorem heap_set {w : World} {b i N : Nat} {v : Value} {o : Obj} (h : w.heap[N]? = some o) (hn : N ≠ b) : (w.setCell ⟨b, i, none⟩ v).heap[N]? = some o := by
  rw [Below.heap_setCell w ⟨b, i, none⟩ v N hn]; exact h
theorem grow_done {w w0 w2 : World} {b cap2 N m : Nat} {lr : Int} {bad : Bool} {u x : Value} {cells : Array Value} (hb0 : Below w.heap.size w w0) (hb2 : Below w0.heap.size w0 w2) (ho : ObjAt w2 b 130 (wcells u lr bad)) (hN : w2.heap[N]? = some (.cells cells 5 (0, 0))) (hNb : N ≠ b) :
    ObjAt (((w2.setCell ⟨b, 0, none⟩ x).setCell ⟨b, 1, none⟩ (.int .i64 0)).setCell ⟨b, 0, none⟩ (.slice (some ⟨N, 0, none⟩) m cap2)) b 130 (wcells (.slice (some ⟨N, 0, none⟩) m cap2) lr bad) ∧
    (((w2.setCell ⟨b, 0, none⟩ x).setCell ⟨b, 1, none⟩ (.int .i64 0)).setCell ⟨b, 0, none⟩ (.slice (some ⟨N, 0, none⟩) m cap2)).heap[N]? = some (.cells cells 5 (0, 0)) ∧
    Kept w.heap.size b w (((w2.setCell ⟨b, 0, none⟩ x).setCell ⟨b, 1, none⟩ (.int .i64 0)).setCell ⟨b, 0, none⟩ (.slice (some ⟨N, 0, none⟩) m cap2)) :=
  ⟨((ho.set 0 x).set 1 (.int .i64 0)).set 0 (.slice (some ⟨N, 0, none⟩) m cap2), heap_set (heap_set (heap_set hN hNb) hNb) hNb,
    (Kept.of_below (below_next hb0 hb2)).trans (((Kept.set w2 ⟨b, 0, none⟩ x).trans (Kept.set _ ⟨b, 1, none⟩ _)).trans (Kept.set _ ⟨b, 0, none⟩ _))⟩
end Go.Proofs.YteiifligdfnifaaDoor
