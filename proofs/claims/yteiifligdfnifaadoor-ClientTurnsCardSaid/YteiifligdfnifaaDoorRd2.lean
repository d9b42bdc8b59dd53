/-
  wire.Reader: Blob, Text.
-/
import Derived.Test.YteiifligdfnifaaDoorRd1
namespace Go.Proofs.YteiifligdfnifaaDoor
open Go.RowKit
set_option maxRecDepth 100000
set_option linter.unusedVariables false

theorem rdNum_nat (s : RSt) : ∃ n : Nat, (rdNum s).1 = (n : Int) := by
  unfold rdNum
  split
  · exact ⟨_, rfl⟩
  · exact ⟨0, rfl⟩
/-- What Blob leaves. -/
def BlobPost (w : World) (r : Nat) (t : List UInt8 × RSt) (e : Ending) (w' : World) : Prop := ∃ v, e = .returned v ∧ IsBytes w' v t.1 ∧ RdAt w' r t.2 ∧ Kept w.heap.size r w w' ∧ ∀ k, v.ownBlock = some k → w.heap.size ≤ k
theorem isBytes_nil (w : World) : IsBytes w (.slice none 0 0) [] := ⟨none, 0, rfl, RowAt.nil _ _, fun _ => rfl, Nat.le_refl _, Nat.zero_le _⟩

theorem isBytes_take {w : World} {a : Option Addr} {c : Nat} {l : List UInt8} (h : IsBytes w (.slice a l.length c) l) (n : Nat) (hn : n ≤ l.length) : IsBytes w (.slice a n c) (l.take n) := by
  obtain ⟨a', c', e, hr, h0, h1, h2⟩ := h
  simp only [Value.slice.injEq] at e
  obtain ⟨rfl, -, rfl⟩ := e
  have hlen : (l.take n).length = n := by rw [List.length_take]; omega
  refine ⟨a, c, by rw [hlen], ?_, h0, by rw [hlen]; omega, h2⟩
  rw [List.map_take]; exact hr.take n

set_option maxHeartbeats 1600000 in
theorem rd_blob (r : Nat) (s : RSt) (w : World) (h : RdAt w r s) (hm : s.1.length ≤ 140737488355328) : Calls Tryd.prog 42 #[.pointer (some ⟨r, 0, none⟩)] w (BlobPost w r (rdBlob s)) := by
  have HH := hid h
  obtain ⟨v, ho, hb, hn⟩ := h
  have c0 := ho.cell 0 _ rfl
  have HB := hid hb
  have HN := hid hn
  obtain ⟨n, hnn⟩ := rdNum_nat s
  have hs1 : (rdNum s).2.1.length ≤ 140737488355328 := by
    unfold rdNum
    split
    · dsimp only; rw [List.length_drop]; omega
    · exact hm
  obtain ⟨q, hq⟩ : ∃ q, q = rdBlob s := ⟨_, rfl⟩
  rw [← hq]
  have HQ : Hid (q = if (rdNum s).2.2 = 0 then (if (rdNum s).2.1.length < n then ([], s.1, 12) else ((rdNum s).2.1.take n, (rdNum s).2.1.drop n, 0)) else ([], (rdNum s).2)) := by
    show _ = _
    rw [hq]; unfold rdBlob; rw [hnn, Int.toNat_natCast]
  have HE : Hid (rdNum s = ((n : Int), (rdNum s).2)) := by show _ = _; rw [← hnn]
  obtain ⟨va, vc, rfl, -⟩ := id hb
  clear ho hn hb hnn hq
  generalize (rdNum s).2 = s1 at *
  obtain ⟨l1, e1⟩ := s1
  dsimp only at hs1
  go_enter Tryd.func42, Tryd.ntmps42
  go_wp2_with fail
  refine (rd_num r s w HH.out).mono ?_
  rintro e w1 ⟨rfl, h1, hk⟩
  rw [HE.out] at h1 ⊢
  have HK1 := hid hk
  have HB1 := hid (isBytes_kept HB.out hk HN.out)
  have hz1 : w.heap.size ≤ w1.heap.size := hk.size
  have HR1 := hid h1
  obtain ⟨v1, ho1, hb1, hn1⟩ := h1
  clear hk c0 HE HH HB
  dsimp only at ho1 hb1
  have HO1 := hid ho1
  have HBB := hid hb1
  have HN1 := hid hn1
  have c0 := ho1.cell 0 _ rfl
  have c1 := ho1.cell 1 _ rfl
  have f0 := ho1.frozen 0
  have f1 := ho1.frozen 1
  clear ho1 hn1
  obtain ⟨a1, d1, rfl, -, hz, hd1, hd2⟩ := hb1
  by_cases he : e1 = 0
  · subst he
    unfold maxLen at hd2
    by_cases hlt : l1.length < n
    · have HQ' : Hid (q = ([], s.1, 12)) := by show _ = _; rw [HQ.out, if_pos rfl, if_pos hlt]
      obtain ⟨q1, q2⟩ := rd_set (e' := 12) HO1.out HB1.out HN.out
      have Q1 := hid q1
      have Q2 := hid (HK1.out.trans (q2.mono hz1))
      clear q1 q2 HB1 HN HO1 HR1 HK1 HBB HN1 HQ
      go_wp2
      go_ret
      rw [HQ'.out]
      exact ⟨_, rfl, isBytes_nil _, Q1.out, Q2.out, by simp [Value.ownBlock]⟩
    · have HQ' : Hid (q = (l1.take n, l1.drop n, 0)) := by show _ = _; rw [HQ.out, if_pos rfl, if_neg hlt]
      have HT := hid (isBytes_take HBB.out n (by omega))
      have HP := hid (bytes_part HBB.out n (l1.length - n) (by omega))
      have hlt' : n ≤ l1.length := by omega
      clear HQ
      go_wp2_with fail
      refine (bytes_clone _ (l1.take n) w1 HT.out (by rw [List.length_take]; omega)).mono ?_
      rintro e w2 ⟨v2, rfl, ho2, hb2⟩
      have hrl := HR1.out.lt
      have HO2 := hid (HO1.out.below hb2)
      have hp2 := HP.out.below hb2
      rw [List.take_of_length_le (l := l1.drop n) (by rw [List.length_drop]; exact Nat.le_refl _)] at hp2
      obtain ⟨q1, q2⟩ := rd_set0 HO2.out hp2 (fun k e => HN1.out k (part_block e))
      have HF : Hid (∀ k, v2.ownBlock = some k → w1.heap.size ≤ k) := fun k e => (ho2.lt k e).1
      have Q3 := hid (isBytes_kept (owns_bytes ho2) q2 (fun k e => by have := HF.out k e; omega))
      have Q1 := hid q1
      have Q2 := hid (HK1.out.trans (((Kept.of_below hb2).trans (q2.mono hb2.size)).mono hz1))
      have d0 := HO2.out.cell 0 _ rfl
      have g0 := HO2.out.frozen 0
      clear q1 q2 HB1 HN HO1 HR1 HK1 HBB HN1 hb2 ho2 hp2 HO2 HT HP c0 c1 f0 f1
      by_cases hcu : d1 = n
      · rw [if_pos hcu, show d1 - n = 0 from by omega] at Q1 Q2 Q3
        go_wp2
        go_ret
        rw [HQ'.out]
        exact ⟨_, rfl, Q3.out, Q1.out, Q2.out, fun k e => Nat.le_trans hz1 (HF.out k e)⟩
      · rw [if_neg hcu] at Q1 Q2 Q3
        go_wp2
        go_ret
        rw [HQ'.out]
        exact ⟨_, rfl, Q3.out, Q1.out, Q2.out, fun k e => Nat.le_trans hz1 (HF.out k e)⟩
  · have HQ' : Hid (q = ([], l1, e1)) := by show _ = _; rw [HQ.out, if_neg he]
    have e2 : (e1 == 0) = false := beq_eq_false_iff_ne.2 he
    clear HQ HB1 HN HO1 HBB HN1
    go_wp2
    go_ret
    rw [HQ'.out]
    exact ⟨_, rfl, isBytes_nil _, HR1.out, HK1.out, by simp [Value.ownBlock]⟩

set_option maxHeartbeats 1600000 in
theorem rd_text (r : Nat) (s : RSt) (w : World) (h : RdAt w r s) (hm : s.1.length ≤ 140737488355328) : Calls Tryd.prog 40 #[.pointer (some ⟨r, 0, none⟩)] w fun e w' => e = .returned (.string ⟨(rdBlob s).1.toArray⟩) ∧ RdAt w' r (rdBlob s).2 ∧ Kept w.heap.size r w w' := by
  have HH := hid h
  clear h
  go_enter Tryd.func40, Tryd.ntmps40
  go_wp2_with fail
  refine (rd_blob r s w HH.out hm).mono ?_
  rintro e w1 ⟨v, rfl, hb, h1, h2, -⟩
  have H1 := hid h1
  have H2 := hid h2
  have hcv := run_bytes (P := Tryd.prog) Tryd.underlying37 Tryd.underlying5 Tryd.underlying9 hb
  clear hb h1 h2
  go_wp2
  go_ret
  exact ⟨rfl, H1.out, H2.out⟩
end Go.Proofs.YteiifligdfnifaaDoor
