/-
  What a call owns, in worlds of which a set of blocks may have changed.
-/
import Derived.Test.YteiifligdfnifaaDoorFoot
namespace Go.Proofs.YteiifligdfnifaaDoor
open Go.RowKit

theorem own_keptS {S : Nat → Prop} {w w' : World} {base : Nat} {e : TypeId} {size : Nat} {v : Value} {n : Nat} {xs : List Value} (h : w.ownsRow base e size v n xs) (hk : KeptS S w w') (hn : ∀ g, v.ownBlock = some g → ¬ S g) : w'.ownsRow base e size v n xs := by
  obtain ⟨h1, h2⟩ := h
  refine ⟨h1, ?_⟩
  rcases h2 with hh | ⟨g, cap, cur, rfl, hbb, hg, r⟩
  · exact .inl hh
  · exact .inr ⟨g, cap, cur, rfl, hbb, by rw [hk.block g (Array.getElem?_eq_some_iff.1 hg).1 (hn g rfl)]; exact hg, r⟩
theorem own_lt {w : World} {base : Nat} {e : TypeId} {size : Nat} {v : Value} {n : Nat} {xs : List Value} (h : w.ownsRow base e size v n xs) : ∀ g, v.ownBlock = some g → base ≤ g ∧ g < w.heap.size := h.lt
theorem KeptS.grown {w w' : World} {ob : Option Nat} (hg : w.grownBy w' ob) : KeptS (fun k => ob = some k) w w' :=
  ⟨hg.os, hg.tape, hg.output, hg.size, fun k hk hn => hg.block k hk (fun e => hn e.symm)⟩
theorem IsBytes.keptS {S : Nat → Prop} {w w' : World} {v : Value} {l : List UInt8} (h : IsBytes w v l) (hk : KeptS S w w') (hn : ∀ k, v.ownBlock = some k → ¬ S k) : IsBytes w' v l := by
  obtain ⟨a, c, rfl, hr, h0, h1, h2⟩ := h
  exact ⟨a, c, rfl, hr.keptS hk (fun ad e => hn _ (by rw [e]; rfl)), h0, h1, h2⟩
/-- A slice of bytes and a block that holds a struct lie apart, or there are no bytes. -/
theorem KeptS.imp {S T : Nat → Prop} {w w' : World} (h : KeptS S w w') (hT : ∀ k, S k → T k) : KeptS T w w' := h.mono (fun k _ hs => hT k hs)
/-- What may change is new. -/
theorem KeptS.drop {S : Nat → Prop} {w w' : World} {B : Nat} (h : KeptS S w w') (hS : ∀ k, S k → B ≤ k) (hB : B ≤ w.heap.size) : Below B w w' := h.below hS hB
theorem RowAt.keptL {S : Nat → Prop} {w w' : World} {a : Option Addr} {vs : List Value} (h : RowAt w a vs) (hk : KeptS S w w') (hn : ∀ ad, a = some ad → ad.block < w.heap.size → ¬ S ad.block) : RowAt w' a vs := by
  cases vs with
  | nil => exact RowAt.nil _ _
  | cons x l => exact h.keptS hk (fun ad e => hn ad e (h.lt (by simp) ad e))
theorem IsBytes.keptL {S : Nat → Prop} {w w' : World} {v : Value} {l : List UInt8} (h : IsBytes w v l) (hk : KeptS S w w') (hn : ∀ k, v.ownBlock = some k → k < w.heap.size → ¬ S k) : IsBytes w' v l := by
  obtain ⟨a, c, rfl, hr, h0, h1, h2⟩ := h
  exact ⟨a, c, rfl, hr.keptL hk (fun ad e => hn _ (by rw [e]; rfl)), h0, h1, h2⟩
end Go.Proofs.YteiifligdfnifaaDoor
