/-
  WireWrites: the two readers side by side.
-/
import Derived.Test.YtimickmlmlihpaaDoorRd4
namespace Go.Proofs.YtimickmlmlihpaaDoor
open Go.RowKit
set_option maxRecDepth 100000
set_option linter.unusedVariables false

/-- Both readers hold s, over the bytes B. -/
structure Both (w0 w : World) (nb r d : Nat) (B : List UInt8) (s : RSt) : Prop where
  rd : RdAt w r s
  rf : RfAt w d B s
  bel : Below nb w0 w
  rn : nb ≤ r
  dn : nb ≤ d
  n0 : nb ≤ w.heap.size
  len : s.1.length ≤ B.length
theorem Both.ne {w0 w : World} {nb r d : Nat} {B : List UInt8} {s : RSt} (h : Both w0 w nb r d B s) : d ≠ r := by
  obtain ⟨v, h1, -⟩ := h.rd
  obtain ⟨v', a, h2, -⟩ := h.rf
  exact ObjAt.ne_obj h2 h1 (by decide)
/-- The first reader's call. -/
theorem Both.rd1 {w0 w w' : World} {nb r d : Nat} {B : List UInt8} {s : RSt} (h : Both w0 w nb r d B s) (hk : Kept w.heap.size r w w') : RfAt w' d B s ∧ Below nb w0 w' ∧ nb ≤ w'.heap.size := by
  refine ⟨?_, below_kept h.bel hk h.rn h.n0, Nat.le_trans h.n0 hk.size⟩
  obtain ⟨v, h1, h2, -⟩ := h.rd
  exact h.rf.kept hk h.ne (fun x hx => isBytes_keptE hx h1 (rd_cells h2 _) hk)
theorem rd_kept {w w' : World} {r d : Nat} {B : List UInt8} {s s' : RSt} (h : RdAt w r s) (hf : RfAt w d B s') (hk : Kept w.heap.size d w w') (hn : d ≠ r) : RdAt w' r s := by
  obtain ⟨v, h1, h2, h3⟩ := h
  obtain ⟨v', a, f1, f2, -⟩ := hf
  exact ⟨v, h1.kept hk hn.symm, isBytes_keptE h2 f1 (rf_cells f2 _ _) hk, h3⟩
theorem bytes_rf {w w' : World} {d : Nat} {B l : List UInt8} {v : Value} {s' : RSt} (h : IsBytes w v l) (hf : RfAt w d B s') (hk : Kept w.heap.size d w w') : IsBytes w' v l := by
  obtain ⟨v', a, f1, f2, -⟩ := hf
  exact isBytes_keptE h f1 (rf_cells f2 _ _) hk
theorem rdNum_len (s : RSt) : (rdNum s).2.1.length ≤ s.1.length := by
  unfold rdNum
  split
  · dsimp only; rw [List.length_drop]; omega
  · exact Nat.le_refl _
theorem rdBlob_len (s : RSt) : (rdBlob s).2.1.length ≤ s.1.length ∧ (rdBlob s).1.length ≤ s.1.length := by
  have h := rdNum_len s
  unfold rdBlob
  split
  · split
    · exact ⟨Nat.le_refl _, Nat.zero_le _⟩
    · dsimp only; rw [List.length_drop, List.length_take]; omega
  · exact ⟨h, Nat.zero_le _⟩
/-- Both readers' calls. -/
theorem Both.step {w0 w w8 w9 : World} {nb r d : Nat} {B : List UInt8} {s s' : RSt} (h : Both w0 w nb r d B s) (h8 : RdAt w8 r s') (hk8 : Kept w.heap.size r w w8) (h9 : RfAt w9 d B s') (hk9 : Kept w8.heap.size d w8 w9) (hl : s'.1.length ≤ s.1.length) : Both w0 w9 nb r d B s' := by
  obtain ⟨hf, hb, hn⟩ := h.rd1 hk8
  exact ⟨rd_kept h8 hf hk9 h.ne, h9, below_kept hb hk9 h.dn hn, h.rn, h.dn, Nat.le_trans hn hk9.size, Nat.le_trans hl h.len⟩
theorem rd_err_q (r : Nat) (s : RSt) (w : World) (h : RdAt w r s) (n : Nat) : Calls Tryd.prog 21 #[.pointer (some ⟨r, 0, none⟩)] (w.drewN n) fun e w' => e = .returned (.int .i64 s.2) ∧ w' = w.drewN n :=
  (rd_err r s _ (h.below (below_drewN' n))).mono fun _ _ h => ⟨h.1, h.2.symm⟩
theorem rd_left_q (r : Nat) (s : RSt) (w : World) (h : RdAt w r s) (n : Nat) : Calls Tryd.prog 22 #[.pointer (some ⟨r, 0, none⟩)] (w.drewN n) fun e w' => e = .returned (.int .i64 s.1.length) ∧ w' = w.drewN n :=
  (rd_left r s _ (h.below (below_drewN' n))).mono fun _ _ h => ⟨h.1, h.2.symm⟩
theorem RfAt.below {w w' : World} {d : Nat} {B : List UInt8} {s : RSt} (h : RfAt w d B s) (hb : Below w.heap.size w w') : RfAt w' d B s := by
  obtain ⟨v, a, h1, h2, h3, h4⟩ := h
  exact ⟨v, a, h1.below hb, h2.below hb, h3, h4⟩
theorem rf_left_q (d : Nat) (B : List UInt8) (s : RSt) (w : World) (h : RfAt w d B s) (n : Nat) : Calls Tryd.prog 23 #[.pointer (some ⟨d, 0, none⟩)] (w.drewN n) fun e w' => e = .returned (.int .i64 s.1.length) ∧ ∃ m, w' = (w.drewN n).drewN m :=
  rf_left d B s _ (h.below (below_drewN' n))
theorem Both.drewN {w0 w : World} {nb r d : Nat} {B : List UInt8} {s : RSt} (h : Both w0 w nb r d B s) (n : Nat) : Both w0 (w.drewN n) nb r d B s :=
  ⟨h.rd.below (below_drewN' n), h.rf.below (below_drewN' n), h.bel.trans (below_drewN' n), h.rn, h.dn, h.n0, h.len⟩
end Go.Proofs.YtimickmlmlihpaaDoor
