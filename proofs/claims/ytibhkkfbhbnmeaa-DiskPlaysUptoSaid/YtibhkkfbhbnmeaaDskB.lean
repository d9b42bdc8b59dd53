/-
  Files.
-/
import Derived.Test.YtibhkkfbhbnmeaaDskA
import Derived.Test.YtibhkkfbhbnmeaaKeys
import Derived.Test.YtibhkkfbhbnmeaaIter
namespace Go.Proofs.Ytibhkkfbhbnmeaa
open Go.RowKit Go.ChangeMaps
set_option maxRecDepth 20000
set_option linter.unusedVariables false

def sortL (l : List (List UInt8)) : List (List UInt8) := l.mergeSort (fun x y => decide (x ≤ y))
theorem sortL_perm {l l' : List (List UInt8)} (h : l.Perm l') : sortL l = sortL l' := mergeSort_of_perm h
theorem sortL_len (l : List (List UInt8)) : (sortL l).length = l.length := List.length_mergeSort l

set_option maxHeartbeats 2000000 in
theorem tab_files (m : Nat) (F : List Fl) (w : World) (h : TabAt w m F) (hl : ∀ x ∈ F, x.nm.length ≤ maxLen) (hm : F.length * 16 ≤ 140737488355328) :
    Calls Try.prog 19 #[.map (some m)] w fun e w' => ∃ v, e = .returned v ∧ w'.ownsRow w.heap.size 9 1 v F.length ((sortL (F.map Fl.nm)).map tkey) ∧ Below w.heap.size w w' := by
  have hhs : (F.map flEnt).map (·.1) = F.map Fl.nm := by rw [List.map_map]; rfl
  have hlen : (F.map flEnt).length = F.length := by rw [List.length_map]
  obtain ⟨D, hown, hsz, hperm⟩ := owns_of Try.underlying9 h.map (by
    intro p hp
    obtain ⟨x, hx, rfl⟩ := List.mem_map.1 hp
    exact hl x hx) (by unfold maxLen; rw [hlen]; omega)
  rw [hhs] at hperm
  rw [hlen] at hsz hown
  have HS := hid (Try.slices_Sorted_keys_37_38 m F.length D mark w hown (by rw [hsz]; unfold maxLen; omega) (by rw [hsz]; omega))
  have HP := hid hperm
  clear hown hsz hperm hhs hlen
  have hb1 := below_new (w := w) (.cells #[.map (some m)] 55)
  have hs1 : w.heap.size ≤ (w.alloc (.cells #[.map (some m)] 55)).heap.size := hb1.size
  have HB := hid hb1
  clear hb1
  go_enter Try.func19, Try.ntmps19
  go_wp2_with fail
  refine (callsIn_wide.1 (Try.maps_Keys_38 _ _)).mono ?_
  rintro e w1 ⟨rfl, rfl⟩
  go_wp2_with fail
  refine (callsIn_wide.1 HS.out).mono ?_
  rintro e w2 ⟨v, ss, rfl, hp, hrow, -, hb2⟩
  have HR := hid hrow
  have HE : Hid (sortL (F.map Fl.nm) = sortL ss) := sortL_perm (hp.trans HP.out).symm
  have HBB := hid (HB.out.trans (hb2.mono hs1))
  have HL : Hid (ss.length = F.length) := by
    have := (hp.trans HP.out).length_eq
    rw [List.length_map] at this; exact this
  clear hp hrow hb2 HS
  go_wp2_with fail
  go_ret
  refine ⟨v, rfl, ?_, HBB.out⟩
  rw [HE.out, ← HL.out]
  exact owns_base HR.out hs1
end Go.Proofs.Ytibhkkfbhbnmeaa
