/-
  Slices of bytes whose capacity may be cut: what a file holds.
-/
import Derived.Test.YtibhkkfbhbnmeaaOwn
import Derived.Test.YtibhkkfbhbnmeaaJoin
import Derived.Deep.AppendLies
namespace Go.Proofs.Ytibhkkfbhbnmeaa
open Go.RowKit
set_option maxRecDepth 20000
set_option linter.unusedVariables false

/-- v holds the bytes l; they lie in the block g, whose cells behind them, within the capacity, are its own. -/
def RowOf (w : World) (v : Value) (l : List UInt8) (g : Option Nat) : Prop :=
  (v = .slice none 0 0 ∧ l = [] ∧ g = none) ∨ ∃ k cap cur, g = some k ∧ v = .slice (some ⟨k, 0, none⟩) l.length cap ∧ w.heap[k]? = some (.cells cur 5 (0, 0)) ∧ l.length ≤ cap ∧ cap ≤ cur.size ∧ cap ≤ maxLen ∧ cur.toList.take l.length = l.map byt
theorem RowOf.block {w : World} {v : Value} {l : List UInt8} {g : Option Nat} (h : RowOf w v l g) : v.ownBlock = g := by
  rcases h with ⟨rfl, -, rfl⟩ | ⟨k, cap, cur, rfl, rfl, -⟩ <;> rfl
theorem RowOf.lt {w : World} {v : Value} {l : List UInt8} {g : Option Nat} (h : RowOf w v l g) : ∀ k, g = some k → k < w.heap.size := by
  intro k hk
  rcases h with ⟨-, -, rfl⟩ | ⟨k', cap, cur, rfl, -, hg, -⟩
  · cases hk
  · cases hk
    exact (Array.getElem?_eq_some_iff.1 hg).1
theorem RowOf.cells {w : World} {k : Nat} {cur : Array Value} {n : Nat} {l : List UInt8} (hg : w.heap[k]? = some (.cells cur 5 (0, 0))) (ht : cur.toList.take n = l.map byt) : RowAt w (some ⟨k, 0, none⟩) (l.map byt) := by
  intro j v hj
  refine ⟨k, 0, rfl, ?_⟩
  unfold World.cell?
  rw [hg]
  rw [← ht, List.getElem?_take] at hj
  split at hj
  · simpa using hj
  · cases hj
theorem RowOf.bytes {w : World} {v : Value} {l : List UInt8} {g : Option Nat} (h : RowOf w v l g) : IsBytes w v l := by
  rcases h with ⟨rfl, rfl, -⟩ | ⟨k, cap, cur, rfl, rfl, hg, h1, h2, h3, h4⟩
  · exact ⟨none, 0, rfl, RowAt.nil _ _, fun _ => rfl, Nat.le_refl _, Nat.zero_le _⟩
  · exact ⟨_, cap, rfl, RowOf.cells hg h4, by simp, h1, h3⟩
theorem RowOf.keptS {S : Nat → Prop} {w w' : World} {v : Value} {l : List UInt8} {g : Option Nat} (h : RowOf w v l g) (hk : KeptS S w w') (hn : ∀ k, g = some k → ¬ S k) : RowOf w' v l g := by
  have hl := h.lt
  rcases h with h | ⟨k, cap, cur, rfl, rfl, hg, r⟩
  · exact .inl h
  · exact .inr ⟨k, cap, cur, rfl, rfl, by rw [hk.block k (hl k rfl) (hn k rfl)]; exact hg, r⟩
theorem RowOf.below {w w' : World} {v : Value} {l : List UInt8} {g : Option Nat} (h : RowOf w v l g) (hb : Below w.heap.size w w') : RowOf w' v l g :=
  h.keptS (S := fun _ => False) (KeptS.of_below hb) (fun _ _ h => h)
theorem RowOf.of_own {w : World} {base : Nat} {v : Value} {l : List UInt8} (h : w.ownsRow base 5 1 v l.length (l.map byt)) : RowOf w v l v.ownBlock := by
  rcases h.2 with ⟨rfl, h0⟩ | ⟨k, cap, cur, rfl, hbb, hg, h1, h2, h3, h4⟩
  · exact .inl ⟨rfl, List.eq_nil_of_length_eq_zero h0, rfl⟩
  · exact .inr ⟨k, cap, cur, rfl, rfl, hg, h1, by omega, h2, by simpa using h4⟩
/-- The first n bytes, the capacity cut behind them. -/
theorem RowOf.cut {w : World} {a : Option Addr} {l : List UInt8} {c n : Nat} {g : Option Nat} (h : RowOf w (.slice a l.length c) l g) (hn : n ≤ l.length) (hg : g ≠ none) : RowOf w (.slice a n n) (l.take n) g := by
  rcases h with ⟨-, -, rfl⟩ | ⟨k, cap, cur, rfl, e, hh, h1, h2, h3, h4⟩
  · exact absurd rfl hg
  · simp only [Value.slice.injEq] at e
    obtain ⟨rfl, -, rfl⟩ := e
    have hl : (l.take n).length = n := by rw [List.length_take]; omega
    refine .inr ⟨k, n, cur, rfl, by rw [hl], hh, by omega, by omega, by omega, ?_⟩
    rw [hl, List.map_take, ← h4, List.take_take, Nat.min_eq_left hn]

theorem run_append_rowof {w : World} {v v2 : Value} {l m : List UInt8} {g : Option Nat} (h : RowOf w v l g) (hb : IsBytes w v2 m) (hlen : l.length + m.length ≤ 140737488355328) (ty : TypeId) :
    ∃ v' w' g', (Builtin.append_ #[32, 32] ty #[v, v2]).run Try.prog w = .ok v' w' ∧ RowOf w' v' (l ++ m) g' ∧ w.grownBy w' g ∧ ∀ k, g' = some k → g = some k ∨ k = w.heap.size := by
  obtain ⟨i, hi, hz, hsize, hby⟩ := info_parts info5
  obtain ⟨ao, c, rfl, hr, h0, -, -⟩ := hb
  have hlm : (m.map byt).length = m.length * i.size := by rw [hsize]; simp
  rcases h with ⟨rfl, rfl, rfl⟩ | ⟨k, cap, cur, rfl, rfl, hg, h1, h2, h3, h4⟩
  · cases ao with
    | none =>
      have hm0 : m = [] := by simpa using hr.none
      subst hm0
      obtain rfl := h0 rfl
      refine ⟨_, w, none, run_append_owned_none (P := Try.prog) (w := w) 0 32 ty 5 i 1 Try.underlying32 hi _ 0 [] (World.ownsRow_nil _ _ _ _), .inl ⟨rfl, rfl, rfl⟩, World.grownBy.refl _ _, by simp⟩
    | some ad =>
      obtain ⟨v', w', hrun, ho, hgr, -, hat⟩ := run_append_own_at (P := Try.prog) w 0 32 ty 5 i (.int .u8 0) 1 1 Try.underlying32 hi hz hsize hby rfl (by omega) (.slice none 0 0) 0 [] (World.ownsRow_nil _ _ _ _) ad m.length c (m.map byt) (by simp) hr.add (oneCell_bytes m) (by unfold maxLen; simp at hlen; omega) (by simp at hlen; omega) (Nat.zero_le _)
      rw [Nat.zero_add, List.nil_append] at ho
      refine ⟨v', w', v'.ownBlock, hrun, RowOf.of_own ho, hgr, fun k hk => ?_⟩
      rcases hat with hat | hat
      · rw [hat] at hk; cases hk
      · rw [hat] at hk; exact .inr (Option.some.inj hk).symm
  · cases ao with
    | none =>
      have hm0 : m = [] := by simpa using hr.none
      subst hm0
      obtain rfl := h0 rfl
      refine ⟨.slice (some ⟨k, 0, none⟩) l.length cap, w, some k, ?_, .inr ⟨k, cap, cur, rfl, by simp, hg, by simpa using h1, h2, h3, by simpa using h4⟩, World.grownBy.refl _ _, fun k' e => .inl e⟩
      simp [Builtin.append_, run_underlying Try.underlying32, sizeOf, typeInfo, hi, Builtin.lenOf, h1, Builtin.firstCells, storeCells, Result.andThen]
    | some ad =>
      by_cases hroom : l.length + m.length ≤ cap
      · have hrun := run_append_room (P := Try.prog) w 32 ty 5 i Try.underlying32 hi k l.length cap cur hg ad m.length c (m.map byt) hlm hr.add (oneCell_bytes m) hroom (by rw [hsize]; simp; omega)
        rw [hsize, Nat.mul_one, List.length_map] at hrun
        refine ⟨_, _, some k, hrun, .inr ⟨k, cap, _, rfl, by simp, setRow_heap w k cur _ 5 _ hg, by simpa using hroom, ?_, h3, ?_⟩, ⟨rfl, rfl, rfl, by simp, fun q _ hq => setRow_other w k q _ (fun e => hq (by rw [e]))⟩, fun k' e => .inl e⟩
        · have e0 : cur.toList.length = cur.size := Array.length_toList
          simp only [List.size_toArray, List.length_append, List.length_take, List.length_drop, List.length_map]; omega
        · rw [List.toList_toArray, h4, ← List.map_append, List.take_left' (by simp)]
      · have hc := (RowOf.cells hg h4).add
        have hrun := run_append_grow (P := Try.prog) w 32 ty 5 i (.int .u8 0) Try.underlying32 hi hz ⟨k, 0, none⟩ l.length cap (l.map byt) (by rw [hsize]; simp) hc ad m.length c (m.map byt) hlm hr.add (by omega) (by omega) (growslice_fits (by omega) (by rw [hby]; omega))
        refine ⟨_, _, some w.heap.size, hrun, .inr ⟨w.heap.size, grownCap w (l.length + m.length) cap 5, _, rfl, by simp, heap_alloc_new w.drew _, ?_, ?_, ?_, ?_⟩, ⟨rfl, rfl, rfl, by simp, fun q hq _ => Below.heap_alloc w.drew _ q hq⟩, fun k' e => .inr (Option.some.inj e).symm⟩
        · rw [List.length_append]; exact grownCap_ge w _ _ _
        · have := grownCap_ge w (l.length + m.length) cap 5
          simp only [Array.size_append, List.size_toArray, size_zeroCells, List.length_map]
          show _ ≤ _ + _ + _ * 1
          omega
        · exact grownCap_le_maxLen w _ _ _ (by unfold maxLen; omega)
        · rw [Array.toList_append, Array.toList_append, List.toList_toArray, List.toList_toArray, ← List.map_append, List.take_left' (by simp)]
end Go.Proofs.Ytibhkkfbhbnmeaa
