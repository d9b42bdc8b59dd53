/-
  The keys of a map with texts as keys, sorted: a map that lies as entries is owned as a datum.
-/
import Derived.Test.YtdieomhddnhfoaaMap
import Derived.Sort.KeysCollected
import Derived.Maps.Own
import Derived.Maps.Range
namespace Go.Proofs.Ytdieomhddnhfoaa
open Go.RowKit
open Go.WideElems (Fit rd rg)
set_option maxRecDepth 20000
set_option linter.unusedVariables false

/-- Every value of a map reads as a mere mark. -/
def mark (_ : Value) : Option (DataW Unit × List MemPlace) := some (.lit (.bool true), [])

theorem keyOf_tkey {P : Program} {k : TypeId} (hk : P.underlying k = some .string) (s : List UInt8) (hs : s.length ≤ maxLen) : keyOf P k (tkey s) = some (.string s) := by
  have e : (ByteArray.mk s.toArray).size = s.length := by simp [ByteArray.size]
  simp [keyOf, hk, mapKey, e, hs]

theorem owns_of {P : Program} {k : TypeId} (hk : P.underlying k = some .string) {w : World} {m : Nat} {l : List (List UInt8 × Value)} (h : MapAt w m tkey l) (hl : ∀ p ∈ l, p.1.length ≤ maxLen) (hn : l.length ≤ maxLen) :
    ∃ D : DataW Unit, w.ownsMap P k mark m l.length D ∧ Maps.size D = l.length ∧ (strKeys D).Perm (l.map (·.1)) := by
  obtain ⟨arr, clock, hb, he, hborn, hnd, hkn⟩ := h
  have hkeys : arr.toList.map (·.key) = l.map (fun p => tkey p.1) := by
    have := congrArg (List.map Prod.fst) he
    simpa [List.map_map, Function.comp_def] using this
  have hlen : arr.size = l.length := by
    have := congrArg List.length he
    simpa using this
  have hk1 : ∀ x ∈ arr.toList, ∃ p ∈ l, x.key = tkey p.1 := fun x hx => by
    have : x.key ∈ arr.toList.map (·.key) := List.mem_map.2 ⟨x, hx, rfl⟩
    rw [hkeys] at this
    obtain ⟨p, hp, e⟩ := List.mem_map.1 this
    exact ⟨p, hp, e.symm⟩
  have hrd : ∀ x ∈ arr.toList, ∀ s, x.key = tkey s → s.length ≤ maxLen → rd P k mark x = some (.string s, .lit (.bool true)) := fun x hx s e hs => by
    unfold rd; rw [e, keyOf_tkey hk s hs]; rfl
  have hinj : ∀ a b : List UInt8, tkey a = tkey b → a = b := fun a b e => by simpa [tkey] using e
  have F : Fit P k mark arr clock := by
    refine ⟨by omega, ⟨hborn, hnd, ?_⟩, fun x hx => ?_⟩
    · rw [hkeys, show (l.map fun p => tkey p.1) = (l.map (·.1)).map tkey by rw [List.map_map]; rfl]
      exact List.pairwise_map.2 (hkn.imp fun hab e => hab (hinj _ _ e))
    · obtain ⟨p, hp, e⟩ := hk1 x hx
      exact ⟨_, hrd x hx p.1 e (hl p hp)⟩
  refine ⟨_, ⟨arr, clock, hb, F, by omega, rfl⟩, ?_, ?_⟩
  · show List.length _ = _
    rw [(Go.WideShapes.sorted_perm _).length_eq, List.length_map, Array.length_toList, hlen]
  · show ((List.foldr DataW.insert [] (arr.toList.map (rg P k mark))).map fun p => strOf p.1).Perm _
    refine ((Go.WideShapes.sorted_perm _).map _).trans ?_
    have e : (arr.toList.map (rg P k mark)).map (fun p => strOf p.1) = (arr.toList.map (·.key)).map (fun v => strOf ((keyOf P k v).getD (.bool false))) := by
      rw [List.map_map, List.map_map]
      refine List.map_congr_left fun x hx => ?_
      obtain ⟨p, hp, e⟩ := hk1 x hx
      show strOf (rg P k mark x).1 = strOf ((keyOf P k x.key).getD (.bool false))
      rw [Go.WideElems.rg_of (hrd x hx p.1 e (hl p hp)), e, keyOf_tkey hk _ (hl p hp)]; rfl
    rw [e, hkeys, List.map_map]
    have e2 : l.map ((fun v => strOf ((keyOf P k v).getD (.bool false))) ∘ fun p => tkey p.1) = l.map (·.1) := List.map_congr_left fun p hp => by
      show strOf ((keyOf P k (tkey p.1)).getD (.bool false)) = p.1
      rw [keyOf_tkey hk _ (hl p hp)]; rfl
    rw [e2]
end Go.Proofs.Ytdieomhddnhfoaa
