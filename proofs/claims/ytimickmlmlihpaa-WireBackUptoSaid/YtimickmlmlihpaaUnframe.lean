/-
  wire.Unframe and althingref01.Unframe.
-/
import Derived.Test.YtimickmlmlihpaaFrame
namespace Go.Proofs.Ytimickmlmlihpaa
open Go.RowKit
set_option maxRecDepth 20000

theorem below_of_drew {w w' : World} (h : ∃ n, w' = w.drewN n) : Below w.heap.size w w' := by
  obtain ⟨n, rfl⟩ := h; exact below_drewN' n

theorem unframeAt_out {l : List UInt8} {n : Int} (h : ¬ (0 ≤ n ∧ n ≤ l.length)) : unframeAt l n = ([], 0, 11) := if_neg h
theorem unframeAt_at (l : List UInt8) (m : Nat) (hm : m ≤ l.length) : unframeAt l m = if (unframe (l.drop m)).2 = 0 then ((unframe (l.drop m)).1, (m : Int) + 8 + (unframe (l.drop m)).1.length, 0) else ([], 0, ((unframe (l.drop m)).2 : Int)) := by
  unfold unframeAt
  rw [if_pos ⟨by omega, by omega⟩]; rfl

set_option maxHeartbeats 8000000 in
theorem wire_unframe (v : Value) (l : List UInt8) (n : Int) (w : World) (hv : IsBytes w v l) (hl : l.length ≤ 140737488351232) :
    Calls Try.prog 21 #[v, .int .i64 n] w fun e w' => ∃ v, e = .returned (.tuple #[v, .int .i64 (unframeAt l n).2.1, .int .i64 (unframeAt l n).2.2]) ∧
      w'.ownsRow w.heap.size 5 1 v (unframeAt l n).1.length ((unframeAt l n).1.map byt) ∧ Below w.heap.size w w' := by
  have HV := hid hv
  obtain ⟨a, c, rfl, hr, _, hlc, _⟩ := hv
  clear hr
  by_cases hin : 0 ≤ n ∧ n ≤ l.length
  rotate_left
  · have hu := hid (unframeAt_out hin)
    by_cases h0 : n < 0
    · go_enter Try.func21, Try.ntmps21
      go_wp2_with fail
      go_ret3
      refine ⟨.slice none 0 0, ?_, ?_, Below.refl _ _⟩
      · rw [hu.out]; rfl
      · rw [hu.out]; exact World.ownsRow_nil _ _ _ _
    · have h1 : (l.length : Int) < n := by omega
      clear hin
      go_enter Try.func21, Try.ntmps21
      go_wp2_with fail
      go_ret3
      refine ⟨.slice none 0 0, ?_, ?_, Below.refl _ _⟩
      · rw [hu.out]; rfl
      · rw [hu.out]; exact World.ownsRow_nil _ _ _ _
  obtain ⟨h0, h1⟩ := hin
  obtain ⟨m, rfl⟩ := Int.eq_ofNat_of_zero_le h0
  have hml : m ≤ l.length := by omega
  have hu := hid (unframeAt_at l m hml)
  have hrl := hid (show (l.drop m).length = l.length - m from List.length_drop)
  by_cases h8 : l.length - m < 8
  · have hd : Hid (unframe (l.drop m) = ([], 12)) := if_pos (by rw [hrl.out]; exact h8)
    go_enter Try.func21, Try.ntmps21
    go_wp2_with fail
    go_ret3
    refine ⟨.slice none 0 0, ?_, ?_, Below.refl _ _⟩
    · rw [hu.out, hd.out]; rfl
    · rw [hu.out, hd.out]; exact World.ownsRow_nil _ _ _ _
  have hcm : ¬ c = m := by omega
  have HP := hid (bytes_part HV.out m (l.length - m) (by omega))
  rw [if_neg hcm] at HP
  have htk : (l.drop m).take (l.length - m) = l.drop m := List.take_of_length_le (by rw [hrl.out]; omega)
  rw [htk] at HP
  clear htk
  go_enter Try.func21, Try.ntmps21
  go_wp2_with fail
  refine (wire_value _ (l.drop m) _ HP.out (by rw [hrl.out]; omega)).mono ?_
  rintro e w1 ⟨rfl, hdr⟩
  have B1 := hid (below_of_drew hdr)
  have V1 := hid (HV.out.below (below_of_drew hdr))
  have S1 := hid (below_of_drew hdr).size
  clear hdr HP HV
  have hun : Hid (unframe (l.drop m) = if 65536 < value4 (l.drop m) then ([], 14) else if l.length - m - 8 < value4 (l.drop m) then ([], 12)
      else if sumOf (four (value4 (l.drop m)) ++ ((l.drop m).drop 8).take (value4 (l.drop m))) = value4 ((l.drop m).drop 4) then (((l.drop m).drop 8).take (value4 (l.drop m)), 0) else ([], 15)) := by
    show _ = _
    unfold unframe
    rw [hrl.out, if_neg h8]
  rw [List.drop_drop, List.drop_drop] at hun
  have hN := value4_lt (l.drop m)
  generalize value4 (l.drop m) = N at hun hN
  by_cases h14 : 65536 < N
  · have hd : Hid (unframe (l.drop m) = ([], 14)) := by rw [hun.out]; exact if_pos h14
    go_wp2_with fail
    go_ret3
    refine ⟨.slice none 0 0, ?_, ?_, B1.out⟩
    · rw [hu.out, hd.out]; rfl
    · rw [hu.out, hd.out]; exact World.ownsRow_nil _ _ _ _
  by_cases h12 : l.length - m - 8 < N
  · have hd : Hid (unframe (l.drop m) = ([], 12)) := by rw [hun.out, if_neg h14]; exact if_pos h12
    go_wp2_with fail
    go_ret3
    refine ⟨.slice none 0 0, ?_, ?_, B1.out⟩
    · rw [hu.out, hd.out]; rfl
    · rw [hu.out, hd.out]; exact World.ownsRow_nil _ _ _ _
  have hun2 : Hid (unframe (l.drop m) = if sumOf (four N ++ (l.drop (m + 8)).take N) = value4 (l.drop (m + 4)) then ((l.drop (m + 8)).take N, 0) else ([], 15)) := by
    rw [hun.out, if_neg h14]; exact if_neg h12
  clear hun
  have hpl : ((l.drop (m + 8)).take N).length = N := by rw [List.length_take, List.length_drop]; omega
  have hPL := hid hpl
  have HP8 := hid (bytes_part V1.out (m + 8) N (by omega))
  have HP4 := hid (bytes_part V1.out (m + 4) (l.length - (m + 4)) (by omega))
  have hcm4 : ¬ c = m + 4 := by omega
  rw [if_neg hcm4, List.take_of_length_le (by rw [List.length_drop]; omega)] at HP4
  have hL4 : Hid (4 ≤ (l.drop (m + 4)).length) := by rw [List.length_drop]; show _ ≤ _; omega
  clear hpl
  generalize (l.drop (m + 8)).take N = p at hun2 hPL HP8
  generalize l.drop (m + 4) = r4 at hun2 HP4 hL4
  by_cases hcm8 : c = m + 8
  · subst hcm8
    rw [if_pos rfl, Nat.sub_self] at HP8
    rw [Nat.add_sub_add_left] at HP4
    go_wp2_with fail
    refine (bytes_clone _ p _ HP8.out (by rw [hPL.out]; omega)).mono ?_
    rintro e w2 ⟨v4, rfl, ho, hb⟩
    have B2 := hid (below_step B1.out S1.out hb)
    have Q4 := hid (HP4.out.below hb)
    have Q5 := hid (owns_bytes ho)
    have O2 := hid (owns_base (base' := w.heap.size) ho S1.out)
    have S2 := hid (Nat.le_trans S1.out hb.size)
    have W0 : Hid (Below w2.heap.size w2 w2.drew) := below_drewN' 1
    have W1 : Hid (w2.heap.size ≤ w2.drew.heap.size) := Nat.le_refl _
    have W4 : Hid (IsBytes w2.drew (.slice (Option.map (fun x => x.add (m + 4)) a) (l.length - (m + 4)) (8 - 4)) r4) := Q4.out
    clear ho hb HP8 HP4 V1
    go_wp2_with fail
    have hz1 : IntKind.i64.wrap ((m : Int) + 4) = (m : Int) + 4 := IntWalk.i64_in _ (by omega)
    have hz2 : (0 : Int) ≤ (m : Int) + 4 := by omega
    have hz3 : ((m : Int) + 4).toNat = m + 4 := by omega
    have hz4 : (m : Int) + 4 ≤ (l.length : Int) := by omega
    go_region_law (first
      | (refine step_app_bytes rfl (.tmp 48) (.tmp 49) 22 rfl w2.heap.size 5 Try.underlying22 info5 _ v4 (four N) p rfl (Hid.out (by assumption)) rfl (Hid.out (by assumption)) (by rw [four_length]; have := hPL.out; omega) (Hid.out (by assumption)) ?_; intro vb wb hob hbb; have HBb := hid (below_step (Hid.out (by assumption)) (Nat.le_refl _) hbb); have SBb := hid HBb.out.size; have HLb := hid (Q4.out.below HBb.out); obtain ⟨ab, cb, rfl, hrb, _⟩ := owns_bytes hob; have HRb := hid hrb; clear hob hbb hrb)
      | (go_simp; go_at_call 28; refine (wire_four N _ hN).mono ?_; rintro e wa ⟨va, rfl, hoa, hba⟩; have HBa := hid (below_step (Hid.out (by assumption)) (Hid.out (by assumption)) hba); have SBa := hid HBa.out.size; have HIa := hid (Q5.out.below HBa.out); have HLa := hid (Q4.out.below HBa.out); have HOa := hid (owns_base (base' := w2.heap.size) hoa (Hid.out (by assumption))); clear hoa hba)
      | (go_simp; go_at_call 9; refine (wire_sum _ _ _ (four N ++ p) _ (by simp) (by simp only [four_length]; have := hPL.out; omega) (Hid.out (by assumption))).mono ?_; rintro e ws ⟨rfl, rfl⟩)
      | (go_simp; go_at_call 30; refine (wire_value _ r4 _ (Hid.out (by assumption)) hL4.out).mono ?_; rintro e wv ⟨rfl, hdv⟩; have hbv := below_of_drew hdv; have HBv := hid (below_step (Hid.out (by assumption)) (Hid.out (by assumption)) hbv); have SBv := hid HBv.out.size; have HLv := hid (Q4.out.below HBv.out); clear hdv hbv))
    clear hz1 hz2 hz3 hz4
    have hfin : ∀ wf, Hid (Below w2.heap.size w2 wf) → Hid (Below w.heap.size w wf) ∧ Hid (wf.ownsRow w.heap.size 5 1 v4 p.length (p.map byt)) :=
      fun wf h => ⟨below_step B2.out S2.out h.out, owns_below O2.out h.out⟩
    have hmN : m + 8 + N ≤ 9223372036854775807 := by omega
    have HF := hid hfin
    clear hfin
    all_goals go_wp2_with fail
    all_goals go_ret3
    all_goals first
      | (have ht : (((sumOf (four N ++ p) : Nat) : Int) != ((value4 r4 : Nat) : Int)) = true := by assumption
         have hd : unframe (l.drop m) = ([], 15) := by
           rw [hun2.out]
           rw [bne_iff_ne] at ht
           exact if_neg (fun h => ht (by rw [h]))
         refine ⟨.slice none 0 0, ?_, ?_, (HF.out _ (by assumption)).1.out⟩
         · rw [hu.out, hd]; rfl
         · rw [hu.out, hd]; exact World.ownsRow_nil _ _ _ _)
      | (have ht : (((sumOf (four N ++ p) : Nat) : Int) != ((value4 r4 : Nat) : Int)) = false := by assumption
         have hd : unframe (l.drop m) = (p, 0) := by
           rw [hun2.out]
           rw [bne_eq_false_iff_eq] at ht
           exact if_pos (by omega)
         refine ⟨v4, ?_, ?_, (HF.out _ (by assumption)).1.out⟩
         · rw [hu.out, hd]; simp only [if_true]; rw [hPL.out]; rfl
         · rw [hu.out, hd]; exact (HF.out _ (by assumption)).2.out)
  · rw [if_neg hcm8] at HP8
    go_wp2_with fail
    refine (bytes_clone _ p _ HP8.out (by rw [hPL.out]; omega)).mono ?_
    rintro e w2 ⟨v4, rfl, ho, hb⟩
    have B2 := hid (below_step B1.out S1.out hb)
    have Q4 := hid (HP4.out.below hb)
    have Q5 := hid (owns_bytes ho)
    have O2 := hid (owns_base (base' := w.heap.size) ho S1.out)
    have S2 := hid (Nat.le_trans S1.out hb.size)
    have W0 : Hid (Below w2.heap.size w2 w2.drew) := below_drewN' 1
    have W1 : Hid (w2.heap.size ≤ w2.drew.heap.size) := Nat.le_refl _
    have W4 : Hid (IsBytes w2.drew (.slice (Option.map (fun x => x.add (m + 4)) a) (l.length - (m + 4)) (c - (m + 4))) r4) := Q4.out
    clear ho hb HP8 HP4 V1
    go_wp2_with fail
    have hz1 : IntKind.i64.wrap ((m : Int) + 4) = (m : Int) + 4 := IntWalk.i64_in _ (by omega)
    have hz2 : (0 : Int) ≤ (m : Int) + 4 := by omega
    have hz3 : ((m : Int) + 4).toNat = m + 4 := by omega
    have hz4 : (m : Int) + 4 ≤ (l.length : Int) := by omega
    go_region_law (first
      | (refine step_app_bytes rfl (.tmp 48) (.tmp 49) 22 rfl w2.heap.size 5 Try.underlying22 info5 _ v4 (four N) p rfl (Hid.out (by assumption)) rfl (Hid.out (by assumption)) (by rw [four_length]; have := hPL.out; omega) (Hid.out (by assumption)) ?_; intro vb wb hob hbb; have HBb := hid (below_step (Hid.out (by assumption)) (Nat.le_refl _) hbb); have SBb := hid HBb.out.size; have HLb := hid (Q4.out.below HBb.out); obtain ⟨ab, cb, rfl, hrb, _⟩ := owns_bytes hob; have HRb := hid hrb; clear hob hbb hrb)
      | (go_simp; go_at_call 28; refine (wire_four N _ hN).mono ?_; rintro e wa ⟨va, rfl, hoa, hba⟩; have HBa := hid (below_step (Hid.out (by assumption)) (Hid.out (by assumption)) hba); have SBa := hid HBa.out.size; have HIa := hid (Q5.out.below HBa.out); have HLa := hid (Q4.out.below HBa.out); have HOa := hid (owns_base (base' := w2.heap.size) hoa (Hid.out (by assumption))); clear hoa hba)
      | (go_simp; go_at_call 9; refine (wire_sum _ _ _ (four N ++ p) _ (by simp) (by simp only [four_length]; have := hPL.out; omega) (Hid.out (by assumption))).mono ?_; rintro e ws ⟨rfl, rfl⟩)
      | (go_simp; go_at_call 30; refine (wire_value _ r4 _ (Hid.out (by assumption)) hL4.out).mono ?_; rintro e wv ⟨rfl, hdv⟩; have hbv := below_of_drew hdv; have HBv := hid (below_step (Hid.out (by assumption)) (Hid.out (by assumption)) hbv); have SBv := hid HBv.out.size; have HLv := hid (Q4.out.below HBv.out); clear hdv hbv))
    clear hz1 hz2 hz3 hz4
    have hfin : ∀ wf, Hid (Below w2.heap.size w2 wf) → Hid (Below w.heap.size w wf) ∧ Hid (wf.ownsRow w.heap.size 5 1 v4 p.length (p.map byt)) :=
      fun wf h => ⟨below_step B2.out S2.out h.out, owns_below O2.out h.out⟩
    have hmN : m + 8 + N ≤ 9223372036854775807 := by omega
    have HF := hid hfin
    clear hfin
    all_goals go_wp2_with fail
    all_goals go_ret3
    all_goals first
      | (have ht : (((sumOf (four N ++ p) : Nat) : Int) != ((value4 r4 : Nat) : Int)) = true := by assumption
         have hd : unframe (l.drop m) = ([], 15) := by
           rw [hun2.out]
           rw [bne_iff_ne] at ht
           exact if_neg (fun h => ht (by rw [h]))
         refine ⟨.slice none 0 0, ?_, ?_, (HF.out _ (by assumption)).1.out⟩
         · rw [hu.out, hd]; rfl
         · rw [hu.out, hd]; exact World.ownsRow_nil _ _ _ _)
      | (have ht : (((sumOf (four N ++ p) : Nat) : Int) != ((value4 r4 : Nat) : Int)) = false := by assumption
         have hd : unframe (l.drop m) = (p, 0) := by
           rw [hun2.out]
           rw [bne_eq_false_iff_eq] at ht
           exact if_pos (by omega)
         refine ⟨v4, ?_, ?_, (HF.out _ (by assumption)).1.out⟩
         · rw [hu.out, hd]; simp only [if_true]; rw [hPL.out]; rfl
         · rw [hu.out, hd]; exact (HF.out _ (by assumption)).2.out)
end Go.Proofs.Ytimickmlmlihpaa
