/-
  The homes, the numbers of a home, each sorted.
-/
import Derived.Test.YtdieomhddnhfoaaTb4
import Derived.Test.YtdieomhddnhfoaaKeysI
import Derived.Test.YtdieomhddnhfoaaIter
import Derived.Test.YtdieomhddnhfoaaIterI
namespace Go.Proofs.Ytdieomhddnhfoaa
open Go.RowKit Go.ChangeMaps
set_option maxRecDepth 20000
set_option linter.unusedVariables false

def sortT (l : List (List UInt8)) : List (List UInt8) := l.mergeSort (fun x y => decide (x ≤ y))
theorem sortT_perm {l l' : List (List UInt8)} (h : l.Perm l') : sortT l = sortT l' := mergeSort_of_perm h
theorem sortT_mem {l : List (List UInt8)} {x : List UInt8} : x ∈ sortT l ↔ x ∈ l := (List.mergeSort_perm l _).mem_iff
theorem sortT_len (l : List (List UInt8)) : (sortT l).length = l.length := List.length_mergeSort l
def sortI (l : List Int) : List Int := l.mergeSort (fun x y => decide (x ≤ y))
theorem sortI_perm {l l' : List Int} (h : l.Perm l') : sortI l = sortI l' := mergeSort_of_perm_i h
theorem sortI_mem {l : List Int} {x : Int} : x ∈ sortI l ↔ x ∈ l := (List.mergeSort_perm l _).mem_iff
theorem sortI_len (l : List Int) : (sortI l).length = l.length := List.length_mergeSort l
theorem sortI_lt {l : List Int} (h : l.Nodup) : (sortI l).Pairwise (· < ·) := by
  have h1 : (sortI l).Pairwise (fun a b => decide (a ≤ b) = true) := List.pairwise_mergeSort (fun a b c h1 h2 => by simp only [decide_eq_true_eq] at *; omega) (fun a b => by simp only [Bool.or_eq_true, decide_eq_true_eq]; omega) l
  have h2 : (sortI l).Nodup := ((List.mergeSort_perm l _).nodup_iff).2 h
  exact (h1.and h2).imp fun {a b} hab => by
    have := hab.1
    simp only [decide_eq_true_eq] at this
    have := hab.2; omega
theorem lit_wf {n : Int} (h : 1 ≤ n ∧ n ≤ 4611686018427387903) : (Lit.int .i64 n).wf = true := by
  have h1 : IntKind.min .i64 ≤ n := by
    have : IntKind.min .i64 = -9223372036854775808 := by decide
    omega
  simp [Lit.wf, h1]
  omega

set_option maxHeartbeats 2000000 in
theorem tab_homes (bt mh : Nat) (H : List Hs) (w : World) (h : TabT w bt mh H) (hm : H.length * 16 ≤ 140737488355328) :
    Calls Try.prog 23 #[.pointer (some ⟨bt, 0, none⟩)] w fun e w' => ∃ v, e = .returned v ∧ w'.ownsRow w.heap.size 9 1 v H.length ((sortT (H.map Hs.nm)).map tkey) ∧ Below w.heap.size w w' := by
  have hhs : (H.map hEnt).map (·.1) = H.map Hs.nm := by rw [List.map_map]; rfl
  have hlen : (H.map hEnt).length = H.length := by rw [List.length_map]
  obtain ⟨D, hown, hsz, hperm⟩ := owns_of Try.underlying9 h.map (by
    intro p hp
    obtain ⟨x, hx, rfl⟩ := List.mem_map.1 hp
    have := (h.hs x hx).len
    show x.nm.length ≤ maxLen
    unfold maxLen; omega) (by unfold maxLen; rw [hlen]; omega)
  rw [hhs] at hperm
  rw [hlen] at hsz hown
  have HS := hid (Try.slices_Sorted_keys_26_27 mh H.length D mark w hown (by rw [hsz]; unfold maxLen; omega) (by rw [hsz]; omega))
  have HP := hid hperm
  have c0 := ObjAt.cell h.tab 0 (.map (some mh)) rfl
  clear hown hsz hperm hhs hlen
  have hb1 := below_new (w := w) (.cells #[.map (some mh)] 54)
  have hs1 : w.heap.size ≤ (w.alloc (.cells #[.map (some mh)] 54)).heap.size := hb1.size
  have HB := hid hb1
  clear hb1
  go_enter Try.func23, Try.ntmps23
  go_wp2_with fail
  refine (callsIn_wide.1 (Try.maps_Keys_27 _ _)).mono ?_
  rintro e w1 ⟨rfl, rfl⟩
  go_wp2_with fail
  refine (callsIn_wide.1 HS.out).mono ?_
  rintro e w2 ⟨v, ss, rfl, hp, hrow, -, hb2⟩
  have HR := hid hrow
  have HE : Hid (sortT (H.map Hs.nm) = sortT ss) := sortT_perm (hp.trans HP.out).symm
  have HBB := hid (HB.out.trans (hb2.mono hs1))
  have HL : Hid (ss.length = H.length) := by
    have := (hp.trans HP.out).length_eq
    rw [List.length_map] at this; exact this
  clear hp hrow hb2 HS
  go_wp2_with fail
  go_ret
  refine ⟨v, rfl, ?_, HBB.out⟩
  rw [HE.out, ← HL.out]
  exact owns_base HR.out hs1

set_option maxHeartbeats 2000000 in
theorem tab_numbers (x : Hs) (w : World) (h : HsAt w x) (hm : x.live.length * 8 ≤ 140737488355328) :
    Calls Try.prog 25 #[.pointer (some ⟨x.bh, 0, none⟩)] w fun e w' => ∃ v, e = .returned v ∧ w'.ownsRow w.heap.size 3 1 v x.live.length ((sortI (x.live.map Sn.n)).map ikey) ∧ Below w.heap.size w w' := by
  have hhs : (x.live.map sEnt).map (·.1) = x.live.map Sn.n := by rw [List.map_map]; rfl
  have hlen : (x.live.map sEnt).length = x.live.length := by rw [List.length_map]
  obtain ⟨D, hown, hsz, hperm⟩ := owns_ofI Try.underlying3 h.live (by
    intro p hp
    obtain ⟨s, hs, rfl⟩ := List.mem_map.1 hp
    have h1 := h.rng s hs
    have h2 := h.lst
    exact lit_wf (n := s.n) (by omega)) (by unfold maxLen; rw [hlen]; omega)
  rw [hhs] at hperm
  rw [hlen] at hsz hown
  have HS := hid (Try.slices_Sorted_keys_29_30 x.ml x.live.length D mark w hown (by rw [hsz]; unfold maxLen; omega) (by rw [hsz]; omega))
  have HP := hid hperm
  have c0 := ObjAt.cell h.obj 1 (.map (some x.ml)) rfl
  clear hown hsz hperm hhs hlen
  have hb1 := below_new (w := w) (.cells #[.map (some x.ml)] 60)
  have hs1 : w.heap.size ≤ (w.alloc (.cells #[.map (some x.ml)] 60)).heap.size := hb1.size
  have HB := hid hb1
  clear hb1
  go_enter Try.func25, Try.ntmps25
  go_wp2_with fail
  refine (callsIn_wide.1 (Try.maps_Keys_30 _ _)).mono ?_
  rintro e w1 ⟨rfl, rfl⟩
  go_wp2_with fail
  refine (callsIn_wide.1 HS.out).mono ?_
  rintro e w2 ⟨v, ss, rfl, hp, hrow, -, hb2⟩
  have HR := hid hrow
  have HE : Hid (sortI (x.live.map Sn.n) = sortI ss) := sortI_perm (hp.trans HP.out).symm
  have HBB := hid (HB.out.trans (hb2.mono hs1))
  have HL : Hid (ss.length = x.live.length) := by
    have := (hp.trans HP.out).length_eq
    rw [List.length_map] at this; exact this
  clear hp hrow hb2 HS
  go_wp2_with fail
  go_ret
  refine ⟨v, rfl, ?_, HBB.out⟩
  rw [HE.out, ← HL.out]
  exact owns_base HR.out hs1
end Go.Proofs.Ytdieomhddnhfoaa
