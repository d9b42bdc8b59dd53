/-
  wire.Writer's buffer (bytes.Buffer, only written): WriteString.
-/
import Derived.Test.YteiifligdfnifaaDoorWr4
namespace Go.Proofs.YteiifligdfnifaaDoor
open Go.RowKit
set_option maxRecDepth 100000
set_option linter.unusedVariables false

theorem bcells_eq (l : List UInt8) : Lib.byteCells l = l.map byt := rfl
theorem size_eq (s : ByteArray) : s.data.toList.length = s.size := by rw [Array.length_toList]; rfl

set_option maxHeartbeats 6400000 in
theorem buf_writeS (b : Nat) (g : Option Nat) (bs : List Value) (bad : Bool) (s : ByteArray) (w : World) (h : WrAt w b g bs bad) (h1 : ∀ v ∈ bs, v.oneCell' = true) (hl : 1 ≤ s.size) (hlim : bs.length + s.size ≤ 140737488355328) :
    Calls Tryd.prog 60 #[.pointer (some ⟨b, 0, none⟩), .string s] w (WrPost w b g (bs ++ s.data.toList.map byt) bad (.tuple #[.int .i64 s.size, .nilIface])) := by
  have hlt := h.lt b (.inl rfl)
  obtain ⟨lr, hc⟩ := h.cases
  rcases hc with ⟨rfl, rfl, ho⟩ | ⟨k, cap, cur, rfl, ho, hg, hnc, hcm, hcs, htk, hkb, h1l⟩
  · have c2 := ho.cell 2 _ rfl
    have f2 := ho.frozen 2
    go_enter Tryd.func60, Tryd.ntmps60
    go_wp2_with fail
    have HO := hid (ho.set 2 (.int .i8 0))
    have HK := hid (Kept.set (B := w.heap.size) w ⟨b, 2, none⟩ (.int .i8 0))
    clear c2 f2 ho
    generalize w.setCell ⟨b, 2, none⟩ (.int .i8 0) = W at HO HK ⊢
    refine (tryGrow_none b _ 0 0 s.size W (HO.out.cell 0 _ rfl) (Nat.le_refl _) (Nat.zero_le _) (by omega)).mono ?_
    rintro e w' ⟨rfl, rfl⟩
    go_wp2_with fail
    by_cases h64 : s.size ≤ 64
    · refine (grow_nil_small b s.size _ bad _ HO.out hl h64).mono ?_
      rintro e W1 ⟨rfl, N, cap2, cells, ho1, hN, hcs1, hn1, hcm1, hNw, hk1⟩
      have HR := hid (ready_nil HK.out ho1 hN hcs1 hn1 hcm1 hNw hlt hk1)
      clear ho1 hN hcs1 hn1 hcm1 hNw hk1 HO HK
      have hcp := Lib.run_copy_row_string (P := Tryd.prog) W1 37 9 3 5 N 0 s.size (cap2 - 0) s cells 5 Tryd.underlying37 info1 HR.out.row (Nat.le_refl _) (by rw [HR.out.size]; exact HR.out.room)
      rw [bcells_eq] at hcp
      simp only [Nat.sub_zero, Nat.zero_add] at hcp
      have d0 := HR.out.obj.cell 0 _ rfl
      simp only [Nat.zero_add] at d0
      have hm9 : cap2 ≤ 9223372036854775807 := by have := HR.out.most; unfold maxLen at this; exact this
      have hr9 : s.size ≤ cap2 := by have := HR.out.room; omega
      obtain ⟨g', q1, q2, q3⟩ := HR.out.done (news := s.data.toList.map byt) (by simp) hl
      simp only [Nat.zero_add] at q1 q2
      have Q1 := hid q1
      have Q2 := hid q2
      clear q1 q2
      go_wp2
      go_ret2
      exact ⟨rfl, g', Q1.out, Q2.out, q3⟩
    · refine (grow_nil_big b s.size _ bad _ HO.out (by omega) (by simpa using hlim)).mono ?_
      rintro e W1 ⟨rfl, N, cap2, cells, ho1, hN, hcs1, hn1, hcm1, hNw, hk1⟩
      have HR := hid (ready_nil HK.out ho1 hN hcs1 hn1 hcm1 hNw hlt hk1)
      clear ho1 hN hcs1 hn1 hcm1 hNw hk1 HO HK
      have hcp := Lib.run_copy_row_string (P := Tryd.prog) W1 37 9 3 5 N 0 s.size (cap2 - 0) s cells 5 Tryd.underlying37 info1 HR.out.row (Nat.le_refl _) (by rw [HR.out.size]; exact HR.out.room)
      rw [bcells_eq] at hcp
      simp only [Nat.sub_zero, Nat.zero_add] at hcp
      have d0 := HR.out.obj.cell 0 _ rfl
      simp only [Nat.zero_add] at d0
      have hm9 : cap2 ≤ 9223372036854775807 := by have := HR.out.most; unfold maxLen at this; exact this
      have hr9 : s.size ≤ cap2 := by have := HR.out.room; omega
      obtain ⟨g', q1, q2, q3⟩ := HR.out.done (news := s.data.toList.map byt) (by simp) hl
      simp only [Nat.zero_add] at q1 q2
      have Q1 := hid q1
      have Q2 := hid q2
      clear q1 q2
      go_wp2
      go_ret2
      exact ⟨rfl, g', Q1.out, Q2.out, q3⟩
  · have c2 := ho.cell 2 _ rfl
    have f2 := ho.frozen 2
    go_enter Tryd.func60, Tryd.ntmps60
    go_wp2_with fail
    have HO := hid (ho.set 2 (.int .i8 0))
    have HK := hid (Kept.set (B := w.heap.size) w ⟨b, 2, none⟩ (.int .i8 0))
    have HG := hid (heap_set (i := 2) (v := .int .i8 0) hg hkb)
    have HTK := hid htk
    have HCS := hid hcs
    clear c2 f2 ho hg htk hcs
    generalize w.setCell ⟨b, 2, none⟩ (.int .i8 0) = W at HO HK HG ⊢
    by_cases hroom : s.size ≤ cap - bs.length
    · refine (tryGrow_room b _ bs.length cap s.size W (HO.out.cell 0 _ rfl) (HO.out.frozen 0) hnc hcm hroom).mono ?_
      rintro e w' ⟨rfl, rfl⟩
      have HR := hid (ready_room (L := bs.length) (n := s.size) HK.out HO.out HG.out HCS.out HTK.out rfl (by omega) hcm hkb)
      clear HO HK HG HTK HCS
      generalize W.setCell ⟨b, 0, none⟩ (.slice (some ⟨k, 0, none⟩) (bs.length + s.size) cap) = W1 at HR ⊢
      have hcp := Lib.run_copy_row_string (P := Tryd.prog) W1 37 9 3 5 k bs.length s.size (cap - bs.length) s cur 5 Tryd.underlying37 info1 HR.out.row (Nat.le_refl _) (by rw [HR.out.size]; exact HR.out.room)
      rw [bcells_eq] at hcp
      have d0 := HR.out.obj.cell 0 _ rfl
      have hcl : ¬ cap = bs.length := by have := HR.out.room; omega
      have hm9 : cap ≤ 9223372036854775807 := by have := HR.out.most; unfold maxLen at this; exact this
      have hr9 : bs.length + s.size ≤ cap := HR.out.room
      obtain ⟨g', q1, q2, q3⟩ := HR.out.done (news := s.data.toList.map byt) (by simp) hl
      have Q1 := hid q1
      have Q2 := hid q2
      clear q1 q2
      go_wp2
      go_ret2
      exact ⟨rfl, g', Q1.out, Q2.out, q3⟩
    · refine (tryGrow_none b _ bs.length cap s.size W (HO.out.cell 0 _ rfl) hnc hcm (by omega)).mono ?_
      rintro e w' ⟨rfl, rfl⟩
      go_wp2_with fail
      refine (grow_row b k bs.length cap s.size _ cur bad _ HO.out HG.out h1l hnc hcm HCS.out hkb (by rw [HTK.out]; exact h1) hl (by omega) hlim).mono ?_
      rintro e W1 ⟨rfl, N, cap2, cells, ho1, hN, hcs1, ht1, hn1, hcm1, hNw, hk1⟩
      have HR := hid (ready_none (k := k) HK.out ho1 hN hcs1 ht1 HTK.out rfl hn1 hcm1 hNw hlt hk1)
      clear ho1 hN hcs1 ht1 hn1 hcm1 hNw hk1 HO HK HG HTK HCS
      have hcp := Lib.run_copy_row_string (P := Tryd.prog) W1 37 9 3 5 N bs.length s.size (cap2 - bs.length) s cells 5 Tryd.underlying37 info1 HR.out.row (Nat.le_refl _) (by rw [HR.out.size]; exact HR.out.room)
      rw [bcells_eq] at hcp
      have d0 := HR.out.obj.cell 0 _ rfl
      have hcl : ¬ cap2 = bs.length := by have := HR.out.room; omega
      have hm9 : cap2 ≤ 9223372036854775807 := by have := HR.out.most; unfold maxLen at this; exact this
      have hr9 : bs.length + s.size ≤ cap2 := HR.out.room
      obtain ⟨g', q1, q2, q3⟩ := HR.out.done (news := s.data.toList.map byt) (by simp) hl
      have Q1 := hid q1
      have Q2 := hid q2
      clear q1 q2
      go_wp2
      go_ret2
      exact ⟨rfl, g', Q1.out, Q2.out, q3⟩
end Go.Proofs.YteiifligdfnifaaDoor
