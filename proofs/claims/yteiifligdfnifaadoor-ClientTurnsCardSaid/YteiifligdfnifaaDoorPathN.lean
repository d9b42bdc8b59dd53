/-
  path.Name and the document's Name: is a text a name?
-/
import Derived.Test.YteiifligdfnifaaDoorRows
import Derived.Test.YteiifligdfnifaaDoorBase
import Derived.Test.YteiifligdfnifaaDoorPathQ
import Derived.Laws.RangeAny
import Derived.Outline
namespace Go.Proofs.YteiifligdfnifaaDoor
open Go.RowKit
set_option maxRecDepth 20000
set_option linter.unusedVariables false

theorem width_pos (s : ByteArray) (pos : Nat) (h : pos < s.size) : 1 ≤ (Utf8.decode s pos).2 := by
  by_cases ha : (s[pos]'h).toNat < 128
  · rw [decode_ascii s pos h ha]
    exact Nat.le_refl _
  · exact (decode_high s pos h (by omega)).2

theorem chOk_iff (c : UInt8) : chOk c = true ↔ ((97 ≤ c.toNat ∧ c.toNat ≤ 122) ∨ (48 ≤ c.toNat ∧ c.toNat ≤ 57) ∨ c.toNat = 46 ∨ c.toNat = 95 ∨ c.toNat = 45) := by
  unfold chOk; exact decide_eq_true_iff
/-- Are all bytes but the first k such as a name has? -/
def restOk (s : ByteArray) (k : Nat) : Bool := (bl s |>.drop k).all chOk
theorem restOk_zero (s : ByteArray) : restOk s 0 = (bl s).all chOk := rfl
theorem restOk_end (s : ByteArray) (k : Nat) (h : ¬ k < s.size) : restOk s k = true := by
  unfold restOk
  rw [List.drop_eq_nil_of_le (by rw [Array.length_toList]; show s.size ≤ k; omega)]; rfl
theorem restOk_step (s : ByteArray) (k : Nat) (h : k < s.size) : restOk s k = (chOk s[k] && restOk s (k + 1)) := by
  unfold restOk
  have h' : k < s.data.toList.length := by rw [Array.length_toList]; exact h
  rw [List.drop_eq_getElem_cons h', List.all_cons]
  rfl
theorem nameOk_def (s : ByteArray) : nameOk (bl s) = (decide (1 ≤ s.size) && decide (s.size ≤ 32) && !(s.toList == [46]) && !(s.toList == [46, 46]) && restOk s 0) := by
  unfold nameOk
  have : (bl s).length = s.size := by rw [Array.length_toList]; rfl
  rw [this, restOk_zero, Lib.toList_data, Bool.decide_and]
theorem name_short {s : ByteArray} (h : s.size < 1) : nameOk (bl s) = false := by
  rw [nameOk_def, decide_eq_false (show ¬ 1 ≤ s.size by omega)]; rfl
theorem name_long {s : ByteArray} (h : 32 < s.size) : nameOk (bl s) = false := by
  rw [nameOk_def, decide_eq_false (show ¬ s.size ≤ 32 by omega)]; simp
theorem name_dot {s : ByteArray} (h : (s.toList == [46]) = true) : nameOk (bl s) = false := by
  rw [nameOk_def, h]; simp
theorem name_dots {s : ByteArray} (h : (s.toList == [46, 46]) = true) : nameOk (bl s) = false := by
  rw [nameOk_def, h]; simp
theorem name_rest {s : ByteArray} (h1 : 1 ≤ s.size) (h2 : s.size ≤ 32) (h3 : (s.toList == [46]) = false) (h4 : (s.toList == [46, 46]) = false) : nameOk (bl s) = restOk s 0 := by
  rw [nameOk_def, h3, h4, decide_eq_true h1, decide_eq_true h2]; rfl
theorem bytes_ne {s : ByteArray} {l : List UInt8} (h : (s.toList == l) = false) : ¬ s.toList = l := by simpa using h
theorem byt_cases (c : UInt8) : (chOk c = true ∧ ((97 ≤ c.toNat ∧ c.toNat ≤ 122) ∨ (48 ≤ c.toNat ∧ c.toNat ≤ 57) ∨ (46 ≤ c.toNat ∧ c.toNat ≤ 46) ∨ (95 ≤ c.toNat ∧ c.toNat ≤ 95) ∨ (45 ≤ c.toNat ∧ c.toNat ≤ 45))) ∨
    (chOk c = false ∧ (c.toNat < 45 ∨ (47 ≤ c.toNat ∧ c.toNat ≤ 47) ∨ (58 ≤ c.toNat ∧ c.toNat ≤ 94) ∨ (96 ≤ c.toNat ∧ c.toNat ≤ 96) ∨ 123 ≤ c.toNat)) := by
  by_cases h : chOk c = true
  · have := (chOk_iff c).1 h
    exact .inl ⟨h, by omega⟩
  · have h2 : ¬ _ := fun e => h ((chOk_iff c).2 e)
    have h' : chOk c = false := by simpa using h
    exact .inr ⟨h', by omega⟩

theorem text_empty {s : ByteArray} (h : s.size < 1) : s.toList = [] ∧ s.toList.isEmpty = true := by
  have : s.toList = [] := by
    apply List.eq_nil_of_length_eq_zero
    rw [Lib.toList_data, Array.length_toList]
    show s.size = 0
    omega
  rw [this]; exact ⟨rfl, rfl⟩
theorem text_some {s : ByteArray} (h : ¬ s.size < 1) : s.toList.isEmpty = false ∧ ¬ s.toList = [] := by
  have : ¬ s.toList = [] := by
    intro e
    have := congrArg List.length e
    rw [Lib.toList_data, Array.length_toList] at this
    exact h (show s.size < 1 by have : s.size = 0 := this; omega)
  refine ⟨?_, this⟩
  cases e : s.toList with
  | nil => exact absurd e this
  | cons a b => rfl

set_option maxHeartbeats 2000000 in
theorem path_name (s : ByteArray) (w : World) : Calls Tryd.prog 27 #[.string s] w fun e w' => e = .returned (.bool (nameOk (bl s))) ∧ Below w.heap.size w w' := by
  by_cases h1 : s.size < 1
  · rw [name_short h1]
    obtain ⟨g1, g2⟩ := text_empty h1
    go_enter Tryd.func27, Tryd.ntmps27
    go_wp2
    go_ret
    exact ⟨rfl, Below.refl _ _⟩
  obtain ⟨g1, g2⟩ := text_some h1
  by_cases h2 : 32 < s.size
  · rw [name_long h2]
    go_enter Tryd.func27, Tryd.ntmps27
    go_wp2
    go_ret
    exact ⟨rfl, Below.refl _ _⟩
  cases h3 : s.toList == [46] with
  | true =>
    rw [name_dot h3]
    go_enter Tryd.func27, Tryd.ntmps27
    go_wp2
    go_ret
    exact ⟨rfl, Below.refl _ _⟩
  | false =>
  have g3 := bytes_ne h3
  cases h4 : s.toList == [46, 46] with
  | true =>
    rw [name_dots h4]
    go_enter Tryd.func27, Tryd.ntmps27
    go_wp2
    go_ret
    exact ⟨rfl, Below.refl _ _⟩
  | false =>
  have g4 := bytes_ne h4
  rw [name_rest (by omega) (by omega) h3 h4]
  go_enter Tryd.func27, Tryd.ntmps27
  go_wp2_with fail
  go_loopw [4, 25] (fun _ _ w' => ∃ pos : Nat, w' = w.iter s pos ∧ Hid (restOk s pos = restOk s 0)) (fun _ _ w' => s.size - w'.iterPos w.heap.size)
  case atStart => exact ⟨0, rfl, rfl⟩
  case round =>
    clear h3 h4 g3 g4
    obtain ⟨pos, rfl, hr⟩ := hrel
    by_cases hlt : pos < s.size
    · have hnx : ∀ ty, (Instr.next (.pointer (some ⟨w.heap.size, 0, none⟩)) true ty).run Tryd.prog (w.iter s pos) = _ := fun ty => run_next_any w s pos ty hlt
      have hwd := width_pos s pos hlt
      have hs := hid (restOk_step s pos hlt)
      have hb := byt_cases s[pos]
      have hdec : (s[pos].toNat < 128 ∧ Hid ((Utf8.decode s pos) = (s[pos].toNat, 1))) ∨ (128 ≤ s[pos].toNat ∧ 128 ≤ (Utf8.decode s pos).1) := by
        by_cases ha : s[pos].toNat < 128
        · exact .inl ⟨ha, decode_ascii s pos hlt ha⟩
        · exact .inr ⟨by omega, (decode_high s pos hlt (by omega)).1⟩
      generalize s[pos] = c at hs hb hdec
      rcases hb with ⟨ho, hb⟩ | ⟨ho, hb⟩
      · have HR : Hid (restOk s (pos + 1) = restOk s 0) := by show _ = _; rw [← hr.out, hs.out, ho]; rfl
        clear ho
        rcases hdec with ⟨hc, hd⟩ | ⟨hc, -⟩
        rotate_left
        · omega
        rw [hd.out] at hnx
        clear hd
        simp only [] at hnx
        generalize c.toNat = n at hnx hb hc
        rcases hb with hb | hb | hb | hb | hb
        all_goals
          (first | have e0 : ((n : Int) == 46) = true := beq_iff_eq.2 (by omega) | have e0 : ((n : Int) == 46) = false := beq_eq_false_iff_ne.2 (by omega))
          (first | have e1 : ((n : Int) == 95) = true := beq_iff_eq.2 (by omega) | have e1 : ((n : Int) == 95) = false := beq_eq_false_iff_ne.2 (by omega))
          (first | have e2 : ((n : Int) == 45) = true := beq_iff_eq.2 (by omega) | have e2 : ((n : Int) == 45) = false := beq_eq_false_iff_ne.2 (by omega))
          go_wp2
          go_roundw
          case rel => exact ⟨pos + 1, rfl, HR⟩
          case measure => simp; omega
      · have HR : Hid (restOk s 0 = false) := by show _ = _; rw [← hr.out, hs.out, ho]; rfl
        clear ho
        rcases hdec with ⟨hc, hd⟩ | ⟨hc, hd⟩
        · rw [hd.out] at hnx
          clear hd
          simp only [] at hnx
          generalize c.toNat = n at hnx hb hc
          rcases hb with hb | hb | hb | hb | hb
          all_goals
            (first | have e0 : ((n : Int) == 46) = true := beq_iff_eq.2 (by omega) | have e0 : ((n : Int) == 46) = false := beq_eq_false_iff_ne.2 (by omega))
            (first | have e1 : ((n : Int) == 95) = true := beq_iff_eq.2 (by omega) | have e1 : ((n : Int) == 95) = false := beq_eq_false_iff_ne.2 (by omega))
            (first | have e2 : ((n : Int) == 45) = true := beq_iff_eq.2 (by omega) | have e2 : ((n : Int) == 45) = false := beq_eq_false_iff_ne.2 (by omega))
            go_wp2
            all_goals first
              | (go_ret; exact ⟨by rw [HR.out]; rfl, (Below.refl _ _).alloc (Nat.le_refl _) _⟩)
              | (exfalso; rename_i hz; simp at hz; omega)
        · clear hb
          generalize (Utf8.decode s pos).1 = n at hnx hd
          go_wp2
          go_ret
          exact ⟨by rw [HR.out]; rfl, (Below.refl _ _).alloc (Nat.le_refl _) _⟩
    · have hnx : ∀ ty, (Instr.next (.pointer (some ⟨w.heap.size, 0, none⟩)) true ty).run Tryd.prog (w.iter s pos) = _ := fun ty => run_next_end w s pos ty hlt
      have HR := hid (hr.out.symm.trans (restOk_end s pos hlt))
      go_wp2
      go_ret
      exact ⟨by rw [HR.out]; rfl, (Below.refl _ _).alloc (Nat.le_refl _) _⟩
end Go.Proofs.YteiifligdfnifaaDoor
