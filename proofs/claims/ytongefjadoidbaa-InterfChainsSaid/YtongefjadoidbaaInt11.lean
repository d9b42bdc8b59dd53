/-
  Interf: SameTexts; the homes of an index.
-/
import Derived.Test.YtongefjadoidbaaInt10
import Derived.Test.YtongefjadoidbaaKeys
import Derived.Test.YtongefjadoidbaaIter
namespace Go.Proofs.Ytongefjadoidbaa
open Go.RowKit
set_option maxRecDepth 20000
set_option linter.unusedVariables false

theorem pre_take_succ {a b : List (List UInt8)} {k : Nat} (ha : k < a.length) (hb : k < b.length) (h : a.take k = b.take k) (e : a[k] = b[k]) : a.take (k + 1) = b.take (k + 1) := by
  rw [List.take_succ_eq_append_getElem ha, List.take_succ_eq_append_getElem hb, h, e]
theorem pre_ne {a b : List (List UInt8)} {k : Nat} (ha : k < a.length) (hb : k < b.length) (e : a[k] ≠ b[k]) : a.isPrefixOf b = false ∧ (a == b) = false := by
  constructor
  · cases h : a.isPrefixOf b with
    | false => rfl
    | true =>
      obtain ⟨c, rfl⟩ := List.isPrefixOf_iff_prefix.1 h
      exact absurd (List.getElem_append_left ha).symm e
  · rw [beq_eq_false_iff_ne]
    rintro rfl
    exact e rfl
set_option maxHeartbeats 2000000 in
theorem same_texts (a1 a2 : Option Addr) (c1 c2 : Nat) (l1 l2 : List (List UInt8)) (w : World) (h1 : RowAt w a1 (l1.map tkey)) (h2 : RowAt w a2 (l2.map tkey)) (n1 : l1.length ≤ 4611686018427387904) (n2 : l2.length ≤ 4611686018427387904) :
    Calls Try.prog 16 #[.slice a1 l1.length c1, .slice a2 l2.length c2] w fun e w' => e = .returned (.bool (l1 == l2)) ∧ Below w.heap.size w w' := by
  by_cases hl : l1.length = l2.length
  rotate_left
  · have HE := hid (show (l1 == l2) = false from by rw [beq_eq_false_iff_ne]; rintro rfl; exact hl rfl)
    have e0 : ((l1.length : Int) == (l2.length : Int)) = false := by rw [beq_eq_false_iff_ne]; omega
    have e1 : ((l1.length : Int) != (l2.length : Int)) = true := by unfold bne; rw [e0]; rfl
    clear hl
    go_enter Try.func16, Try.ntmps16
    go_wp2_with fail
    go_ret
    exact ⟨by rw [HE.out]; rfl, Below.refl _ _⟩
  have e0 : ((l1.length : Int) == (l2.length : Int)) = true := by rw [beq_iff_eq]; omega
  have e1 : ((l1.length : Int) != (l2.length : Int)) = false := by unfold bne; rw [e0]; rfl
  have HL := hid hl
  have H1 := hid h1
  have H2 := hid h2
  have hle : l1.length ≤ l2.length := by omega
  clear hl h1 h2
  go_enter Try.func16, Try.ntmps16
  go_wp2_with fail
  clear e0 e1
  go_loopw [5] (fun i wr => ∃ (k n : Nat), i = .int .i64 k ∧ k ≤ l1.length ∧ Hid (l1.take k = l2.take k) ∧ wr = w.drewN n) (fun i _ => l1.length - (intOf i).toNat)
  case atStart => exact ⟨0, 0, rfl, Nat.zero_le _, rfl, rfl⟩
  case round =>
    obtain ⟨k, n, rfl, hk, hs, rfl⟩ := hrel
    by_cases hlt : k < l1.length
    · have hlt2 : k < l2.length := by omega
      obtain ⟨b1, o1, rfl, hc1⟩ := H1.out.at k (by simpa using hlt)
      obtain ⟨b2, o2, rfl, hc2⟩ := H2.out.at k (by simpa using hlt2)
      simp only [List.getElem_map] at hc1 hc2
      have hst := hid (pre_take_succ hlt hlt2 hs.out)
      have hne := hid (pre_ne (a := l1) (b := l2) hlt hlt2)
      clear H1 H2
      generalize l1[k] = x at *
      generalize l2[k] = y at *
      unfold tkey at hc1 hc2
      go_wp2_with fail
      have hi1 : (0 : Int) ≤ (k : Int) := by omega
      have hi2 : (k : Int) < (l1.length : Int) := by omega
      have hi3 : (k : Int) < (l2.length : Int) := by omega
      cases hxy : (x == y) with
      | true =>
        have HXY := hid (beq_iff_eq.1 hxy)
        go_quiet (fail)
        go_wp2_with fail
        go_roundw
        case rel => exact ⟨k + 1, n + nq, by go_num, by omega, hst.out HXY.out, rfl⟩
        case measure => simp [intOf]; omega
      | false =>
        have HXY := hid (hne.out (beq_eq_false_iff_ne.1 hxy))
        go_quiet (fail)
        go_wp2_with fail
        go_ret
        exact ⟨by rw [HXY.out.2]; rfl, by rw [World.drewN_drewN]; exact below_drewN' _⟩
    · obtain rfl : k = l1.length := by omega
      go_wp2_with fail
      go_ret
      refine ⟨ret_v ?_, below_drewN' _⟩
      have : l1 = l2 := by
        have := hs.out
        rw [List.take_length, List.take_of_length_le (by have := HL.out; omega)] at this
        exact this
      subst this
      simp


/-- A slice of texts. -/
def IsTexts (w : World) (v : Value) (l : List (List UInt8)) : Prop := ∃ a c, v = .slice a l.length c ∧ RowAt w a (l.map tkey)
theorem IsTexts.below {w w' : World} {v : Value} {l : List (List UInt8)} (h : IsTexts w v l) (hb : Below w.heap.size w w') : IsTexts w' v l := by
  obtain ⟨a, c, h1, h2⟩ := h
  exact ⟨a, c, h1, h2.below hb⟩
theorem same_texts_yes (v1 v2 : Value) (l : List (List UInt8)) (w : World) (h1 : IsTexts w v1 l) (h2 : IsTexts w v2 l) (hm : l.length ≤ 4611686018427387904) :
    Calls Try.prog 16 #[v1, v2] w fun e w' => e = .returned (.bool true) ∧ Below w.heap.size w w' := by
  obtain ⟨a1, c1, rfl, r1⟩ := h1
  obtain ⟨a2, c2, rfl, r2⟩ := h2
  refine (same_texts a1 a2 c1 c2 l l w r1 r2 hm hm).mono ?_
  rintro e w' ⟨rfl, hb⟩
  exact ⟨by simp, hb⟩

/-- Texts in order. -/
def sortL (l : List (List UInt8)) : List (List UInt8) := l.mergeSort (fun x y => decide (x ≤ y))
theorem sortL_perm {l l' : List (List UInt8)} (h : l.Perm l') : sortL l = sortL l' := mergeSort_of_perm h
theorem sortL_len (l : List (List UInt8)) : (sortL l).length = l.length := List.length_mergeSort l

set_option maxHeartbeats 2000000 in
theorem idx_homes (x : IdxP) (n : Nat) (S : List It) (w : World) (hx : IdxAt w x n S) (hl : ∀ i ∈ S, i.home.length ≤ maxLen) (hm : x.hs.length * 16 ≤ 140737488355328) :
    Calls Try.prog 17 #[.pointer (some ⟨x.ib, 0, none⟩)] w fun e w' => ∃ v, e = .returned v ∧ IsTexts w' v (sortL (x.hs.map (·.1))) ∧ Below w.heap.size w w' := by
  obtain ⟨cap, cu, ho, -⟩ := hx.g.all
  have hhs : (hmap x.hs).map (·.1) = x.hs.map (·.1) := by unfold hmap; rw [List.map_map]; rfl
  have hlen : (hmap x.hs).length = x.hs.length := by unfold hmap; rw [List.length_map]
  obtain ⟨D, hown, hsz, hperm⟩ := owns_of Try.underlying9 hx.g.homes (by
    intro p hp
    have : p.1 ∈ (hmap x.hs).map (·.1) := List.mem_map.2 ⟨p, hp, rfl⟩
    rw [hhs, hx.keys] at this
    obtain ⟨i, hi, -, he⟩ := this
    rw [← he]; exact hl i hi) (by unfold maxLen; omega)
  rw [hhs] at hperm
  rw [hlen] at hsz hown
  have k2 := ho.cell 3 (.map (some x.mb)) rfl
  have HS := hid (Try.slices_Sorted_keys_30_31 x.mb x.hs.length D mark w hown (by rw [hsz]; unfold maxLen; omega) (by rw [hsz]; omega))
  have HP := hid hperm
  clear hown hsz hperm ho hhs hlen
  have hb1 := below_new (w := w) (.cells #[.map (some x.mb)] 64)
  have hs1 : w.heap.size ≤ (w.alloc (.cells #[.map (some x.mb)] 64)).heap.size := hb1.size
  have HB := hid hb1
  clear hb1
  go_enter Try.func17, Try.ntmps17
  go_wp2_with fail
  refine (callsIn_wide.1 (Try.maps_Keys_31 _ _)).mono ?_
  rintro e w1 ⟨rfl, rfl⟩
  go_wp2_with fail
  refine (callsIn_wide.1 HS.out).mono ?_
  rintro e w2 ⟨v, ss, rfl, hp, hrow, -, hb2⟩
  have HR := hid hrow
  have HE : Hid (sortL (x.hs.map (·.1)) = sortL ss) := sortL_perm (hp.trans HP.out).symm
  have HBB := hid (HB.out.trans (hb2.mono hs1))
  have hp' := hid hp
  clear hp hrow hb2 HS
  go_wp2_with fail
  go_ret
  refine ⟨v, rfl, ?_, HBB.out⟩
  rw [HE.out]
  obtain ⟨a, c, hv, hr, -⟩ := owns_row HR.out
  refine ⟨a, c, ?_, hr⟩
  rw [hv, sortL_len]
end Go.Proofs.Ytongefjadoidbaa
