/-
  wire.Writer: num, Nums, Blobs, Texts.
-/
import Derived.Test.YteiifligdfnifaaDoorWr6
namespace Go.Proofs.YteiifligdfnifaaDoor
open Go.RowKit
set_option maxRecDepth 100000
set_option linter.unusedVariables false

theorem own_at {w : World} {base : Nat} {e : TypeId} {size n : Nat} {v : Value} {xs : List Value} (h : w.ownsRow base e size v n xs) (hn : 0 < n) : ∃ k c, v = .slice (some ⟨k, 0, none⟩) n c ∧ base ≤ k ∧ RowAt w (some ⟨k, 0, none⟩) xs := by
  obtain ⟨a, cap, rfl, hr, h1, h2⟩ := owns_row h
  obtain ⟨k, rfl, hb, -⟩ := own_some h hn
  exact ⟨k, cap, rfl, hb, hr⟩
theorem enc_pos (n : Nat) : 1 ≤ (enc n).length := by
  have := enc_ne n
  cases h : enc n with
  | nil => exact absurd h this
  | cons x l => simp
theorem wr_put {w w1 w2 : World} {b : Nat} {g : Option Nat} {s : WSt} {N : Nat} {r : Value} {e : Ending} (hb : Below w.heap.size w w1) (hn : isNum (N : Int) = true) (h : WrPost w1 b g (s.1.map byt ++ (enc N).map byt) s.2 r e w2) : e = .returned r ∧ WrTo w b g (numW s N) w2 := by
  obtain ⟨h1, g', h2, h3, h4⟩ := h
  refine ⟨h1, g', ?_, (KeptS.of_below hb).next h3, fun k e => (h4 k e).imp_right (Nat.le_trans hb.size)⟩
  unfold numW
  rw [if_pos hn, Int.toNat_natCast]
  dsimp only
  rw [List.map_append]; exact h2

set_option maxHeartbeats 3200000 in
theorem buf_num (b : Nat) (g : Option Nat) (s : WSt) (n : Int) (w : World) (h : WrAt w b g (s.1.map byt) s.2) (hm : s.1.length + 9 ≤ 140737488355328) :
    Calls Tryd.prog 59 #[.pointer (some ⟨b, 0, none⟩), .int .i64 n] w fun e w' => e = .returned (.tuple #[]) ∧ WrTo w b g (numW s n) w' := by
  have HH := hid h
  have hne := h.ne
  have hbl := h.lt b (.inl rfl)
  cases hn : isNum n with
  | false =>
    obtain ⟨v, lr, ho, hw, hv⟩ := h.ex
    have HQ : Hid (WrTo w b g (numW s n) (w.setCell ⟨b, 3, none⟩ (.bool true))) := by
      have hk : KeptS (fun q => q = b) w (w.setCell ⟨b, 3, none⟩ (.bool true)) := KeptS.set (S := fun q => q = b) w ⟨b, 3, none⟩ (.bool true) rfl
      refine ⟨g, ?_, hk.imp (fun k e => .inl e), fun k e => .inl e⟩
      unfold numW
      rw [hn, if_neg (by decide)]
      exact ⟨⟨v, lr, ho.set 3 (.bool true), own_keptS hw hk (fun k e e2 => hne (by rw [← hv, e, e2])), hv⟩, hne, h.full⟩
    have f3 := ho.frozen 3
    have c3 := ho.cell 3 _ rfl
    have HN := hid hn
    clear hn ho hw hv h HH
    go_enter Tryd.func59, Tryd.ntmps59
    go_wp2_with fail
    refine (wire_right n w).mono ?_
    rintro e w' ⟨rfl, rfl⟩
    rw [HN.out]
    go_wp2_with fail
    exact bodyPost_ret (v := .tuple #[]) (by simp [results, Tryd.results59, go_sem]) rfl ⟨rfl, HQ.out⟩
  | true =>
    have h2 := (isNum_iff n).1 hn
    obtain ⟨N, rfl⟩ : ∃ N : Nat, n = N := ⟨n.toNat, by omega⟩
    have HN := hid hn
    have h63 : N < 2 ^ 63 := by omega
    have H9 := hid (enc_length9 h63)
    clear hn h h2
    go_enter Tryd.func59, Tryd.ntmps59
    go_wp2_with fail
    refine (wire_right N w).mono ?_
    rintro e w' ⟨rfl, rfl⟩
    rw [HN.out]
    go_wp2_with fail
    go_region_with (first
      | (go_at_call 67; refine (wire_put (.slice none 0 0) [] N w.heap.size _ (World.ownsRow_nil _ _ _ _) ?_ h63 (by have := H9.out; simp only [List.length_nil]; omega)).mono ?_; exact Nat.le_refl _; rintro e w1 ⟨v', rfl, ho1, hb1⟩; simp only [List.nil_append] at ho1; obtain ⟨k, c, rfl, hk1, hr1⟩ := own_at ho1 (enc_pos N); have HB1 := hid (undrew (w := w) hb1); clear ho1 hb1)
      | (go_at_call 61; refine (buf_write b g (s.1.map byt) s.2 ⟨k, 0, none⟩ (enc N) c _ (HH.out.below HB1.out) (oneCell_bytes _) hr1 (by show k ≠ b; omega) (enc_pos N) (by have := H9.out; rw [List.length_map]; omega)).mono ?_; intro e w2 hp; obtain ⟨rfl, HQ⟩ := wr_put HB1.out HN.out hp; have HQ' := hid HQ; clear hp HQ))
    go_end0
    exact ⟨rfl, HQ'.out⟩
end Go.Proofs.YteiifligdfnifaaDoor
