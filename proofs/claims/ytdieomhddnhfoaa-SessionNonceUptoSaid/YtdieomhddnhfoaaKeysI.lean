/-
  The keys of a map with ints as keys, sorted: a map that lies as entries is owned as a datum.
-/
import Derived.Test.YtdieomhddnhfoaaKeys
import Derived.Lib.SlKeysI
namespace Go.Proofs.Ytdieomhddnhfoaa
open Go.RowKit
open Go.WideElems (Fit rd rg)
set_option maxRecDepth 20000
set_option linter.unusedVariables false

theorem keyOf_ikey {P : Program} {k : TypeId} (hk : P.underlying k = some (.int .i64)) (n : Int) (hn : (Lit.int .i64 n).wf = true) : keyOf P k (.int .i64 n) = some (.int .i64 n) := by
  simp [keyOf, hk, mapKey, hn]
theorem owns_ofI {P : Program} {k : TypeId} (hk : P.underlying k = some (.int .i64)) {w : World} {m : Nat} {l : List (Int × Value)} (h : MapAt w m (fun n : Int => Value.int .i64 n) l) (hl : ∀ p ∈ l, (Lit.int .i64 p.1).wf = true) (hn : l.length ≤ maxLen) :
    ∃ D : DataW Unit, w.ownsMap P k mark m l.length D ∧ Maps.size D = l.length ∧ (intKeys D).Perm (l.map (·.1)) := by
  obtain ⟨arr, clock, hb, he, hborn, hnd, hkn⟩ := h
  have hkeys : arr.toList.map (·.key) = l.map (fun p => Value.int .i64 p.1) := by
    have := congrArg (List.map Prod.fst) he
    simpa [List.map_map, Function.comp_def] using this
  have hlen : arr.size = l.length := by
    have := congrArg List.length he
    simpa using this
  have hk1 : ∀ x ∈ arr.toList, ∃ p ∈ l, x.key = Value.int .i64 p.1 := fun x hx => by
    have : x.key ∈ arr.toList.map (·.key) := List.mem_map.2 ⟨x, hx, rfl⟩
    rw [hkeys] at this
    obtain ⟨p, hp, e⟩ := List.mem_map.1 this
    exact ⟨p, hp, e.symm⟩
  have hrd : ∀ x ∈ arr.toList, ∀ n : Int, x.key = Value.int .i64 n → (Lit.int .i64 n).wf = true → rd P k mark x = some (.int .i64 n, .lit (.bool true)) := fun x hx n e hs => by
    unfold rd; rw [e, keyOf_ikey hk n hs]; rfl
  have F : Fit P k mark arr clock := by
    refine ⟨by omega, ⟨hborn, hnd, ?_⟩, fun x hx => ?_⟩
    · rw [hkeys, show (l.map fun p => Value.int .i64 p.1) = (l.map (·.1)).map (Value.int .i64) by rw [List.map_map]; rfl]
      exact List.pairwise_map.2 (hkn.imp fun hab e => hab (by injection e))
    · obtain ⟨p, hp, e⟩ := hk1 x hx
      exact ⟨_, hrd x hx p.1 e (hl p hp)⟩
  refine ⟨_, ⟨arr, clock, hb, F, by omega, rfl⟩, ?_, ?_⟩
  · show List.length _ = _
    rw [(Go.WideShapes.sorted_perm _).length_eq, List.length_map, Array.length_toList, hlen]
  · show ((List.foldr DataW.insert [] (arr.toList.map (rg P k mark))).map fun p => intOf p.1).Perm _
    refine ((Go.WideShapes.sorted_perm _).map _).trans ?_
    have e : (arr.toList.map (rg P k mark)).map (fun p => intOf p.1) = (arr.toList.map (·.key)).map (fun v => intOf ((keyOf P k v).getD (.bool false))) := by
      rw [List.map_map, List.map_map]
      refine List.map_congr_left fun x hx => ?_
      obtain ⟨p, hp, e⟩ := hk1 x hx
      show intOf (rg P k mark x).1 = intOf ((keyOf P k x.key).getD (.bool false))
      rw [Go.WideElems.rg_of (hrd x hx p.1 e (hl p hp)), e, keyOf_ikey hk _ (hl p hp)]; rfl
    rw [e, hkeys, List.map_map]
    have e2 : l.map ((fun v => intOf ((keyOf P k v).getD (.bool false))) ∘ fun p => Value.int .i64 p.1) = l.map (·.1) := List.map_congr_left fun p hp => by
      show intOf ((keyOf P k (Value.int .i64 p.1)).getD (.bool false)) = p.1
      rw [keyOf_ikey hk _ (hl p hp)]; rfl
    rw [e2]
end Go.Proofs.Ytdieomhddnhfoaa
