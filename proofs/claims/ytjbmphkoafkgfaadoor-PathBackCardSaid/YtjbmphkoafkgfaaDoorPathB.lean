/-
  PathBack: the walk.
-/
import Derived.Test.YtjbmphkoafkgfaaDoorPathC
namespace Go.Proofs.YtjbmphkoafkgfaaDoor
open Go.RowKit
set_option maxRecDepth 20000
set_option linter.unusedVariables false

/-- What holds of a path, what is above it, and its names. -/
theorem back_facts {p : List UInt8} {ls : List (List UInt8)} (h : parts p = some ls) (hne : ls ≠ []) : ∃ i b, parentP p = some (makeS i) ∧ baseP p = some b ∧ joinP (makeS i) [b] = some p ∧ underP (makeS i) p = true ∧ underP (47 :: homeP p) p = true ∧ underP [47] p = true ∧ underP p (makeS i) = false := by
  obtain ⟨i, b, rfl, ep, hb, hbn, ht, hd⟩ := parts_split h hne
  obtain ⟨hn, em, h8, h128, -⟩ := parts_some h
  have hni : ∀ s ∈ i, nameOk s = true := fun s hs => hn s (by simp [hs])
  have hpi : parts (makeS i) = some i := by
    rw [parts_make hni, if_neg]
    rintro (g | g)
    · simp at h8; omega
    · rw [ht, List.length_take] at g; omega
  refine ⟨i, b, ?_, ?_, ?_, ?_, ?_, ?_, ?_⟩
  · unfold parentP; rw [h]; simp
  · unfold baseP; rw [h]; simp
  · unfold joinP
    rw [hpi]
    simp only [List.all_cons, List.all_nil, hbn, Bool.and_self, if_true]
    rw [← em, h]; rfl
  · unfold underP; rw [hpi, h]
    simp only
    rw [List.isPrefixOf_iff_prefix]; exact ⟨[b], rfl⟩
  · obtain ⟨x, y, e⟩ : ∃ x y, i ++ [b] = x :: y := by
      cases i with
      | nil => exact ⟨b, [], rfl⟩
      | cons x y => exact ⟨x, y ++ [b], rfl⟩
    have hh : homeP p = x := by unfold homeP; rw [h, e]; rfl
    have hx : nameOk x = true := hn x (by rw [e]; simp)
    have h1 : parts (47 :: homeP p) = some [x] := by
      rw [hh, show (47 :: x : List UInt8) = makeS [x] from by simp [makeS, mkS], parts_make (by simp [hx]), if_neg]
      rintro (g | g)
      · simp at g
      · have := (name_len hx).2
        simp [makeS, mkS] at g; omega
    unfold underP; rw [h1, h, e]
    simp [List.isPrefixOf]
  · have h1 : parts [47] = some [] := rfl
    unfold underP; rw [h1, h]; rfl
  · unfold underP; rw [hpi, h]
    simp only
    exact pre_long (by simp)

theorem slash_text (H : List UInt8) : bl (ByteArray.mk #[47] ++ ByteArray.mk H.toArray) = 47 :: H := by
  show (ByteArray.mk #[47] ++ ByteArray.mk H.toArray).data.toList = _
  rw [ByteArray.data_append, Array.toList_append]; rfl
theorem path_join_one (p : ByteArray) (b : List UInt8) (w : World) : Calls Tryd.prog 22 #[.string p, .slice (some ⟨w.heap.size, 0, none⟩) 1 1] (w.alloc (.cells #[.string ⟨b.toArray⟩] 9)) (TextPost w (joinP (bl p) [b])) := by
  have h := path_join p (some ⟨w.heap.size, 0, none⟩) 1 [b] (w.alloc (.cells #[.string ⟨b.toArray⟩] 9)) (RowAt.new w #[.string ⟨b.toArray⟩] _ _) (by simp)
  refine Calls.mono h ?_
  rintro e w' ⟨he, hb⟩
  exact ⟨he, below_step (below_new _) (by simp) hb⟩

set_option maxHeartbeats 1000000 in
theorem back_walk (p : ByteArray) (w : World) : Calls Tryd.prog 5 #[.string p] w fun e w' => e = .returned (.bool true) ∧ Below w.heap.size w w' := by
  cases hp : parts (bl p) with
  | none =>
    have h1 := none_root hp
    have g1 := bytes_ne h1
    have HP : Hid (parentP (bl p) = none) := by show _ = _; unfold parentP; rw [hp]
    have HE := hid hp
    clear hp
    go_enter Tryd.func5, Tryd.ntmps5
    go_wp2_with fail
    refine (path_parent p _).mono ?_
    rintro e w1 ⟨rfl, hb⟩
    have HB1 := hid hb
    rw [HP.out]
    clear hb
    unfold txt
    go_wp2_with fail
    refine (path_check p _).mono ?_
    rintro e w2 ⟨rfl, hb⟩
    have HB2 := hid (below_step HB1.out HB1.out.size hb)
    rw [HE.out]
    clear hb HB1
    go_wp2_with fail
    refine (awake02 _).mono ?_
    rintro e w3 ⟨rfl, hb⟩
    have HB3 := hid (below_step HB2.out HB2.out.size hb)
    clear hb HB2
    go_wp2_with fail
    go_ret
    exact ⟨rfl, HB3.out⟩
  | some ls =>
    by_cases hne : ls = []
    · subst hne
      have h1 := is_root hp
      have HP : Hid (parentP (bl p) = none) := by show _ = _; unfold parentP; rw [hp]; rfl
      clear hp
      go_enter Tryd.func5, Tryd.ntmps5
      go_wp2_with fail
      refine (path_parent p _).mono ?_
      rintro e w1 ⟨rfl, hb⟩
      have HB1 := hid hb
      rw [HP.out]
      clear hb
      unfold txt
      go_wp2_with fail
      refine (awake02 _).mono ?_
      rintro e w3 ⟨rfl, hb⟩
      have HB3 := hid (below_step HB1.out HB1.out.size hb)
      clear hb HB1
      go_wp2_with fail
      go_ret
      exact ⟨rfl, HB3.out⟩
    · obtain ⟨i, b, e1, e2, e3, e4, e5, e6, e7⟩ := back_facts hp hne
      have HU0 : ∀ a, errP2 (bl p) a = errP2 (bl p) a := fun _ => rfl
      have hhl : (homeP (bl p)).length ≤ 128 := by
        have h128 := (parts_some hp).2.2.2.1
        have hnn := (parts_some hp).1
        unfold homeP
        rw [hp]
        cases ls with
        | nil => simp
        | cons x y => have := (name_len (hnn x (by simp))).2; simp only [List.headD_cons]; omega
      have HP := hid e1
      have HBS := hid e2
      have HJ := hid e3
      have HU1 := hid e4
      have HU2 := hid e5
      have HU3 := hid e6
      have HU4 := hid e7
      have HE := hid hp
      clear e1 e2 e3 e4 e5 e6 e7 hp HU0 hne
      generalize hM : makeS i = M at *
      generalize hH : homeP (bl p) = H at *
      have HM := hid hM
      have HH := hid hH
      clear hM hH
      go_enter Tryd.func5, Tryd.ntmps5
      go_wp2_with fail
      refine (path_parent p _).mono ?_
      rintro e w1 ⟨rfl, hb⟩
      have HB1 := hid hb
      rw [HP.out]
      clear hb
      unfold txt
      go_wp2_with fail
      refine (path_base p _).mono ?_
      rintro e w2 ⟨rfl, hb⟩
      have HB2 := hid (below_step HB1.out HB1.out.size hb)
      rw [HBS.out]
      clear hb HB1
      unfold txt
      go_wp2_with fail
      have HJ1 := hid (path_join_one ⟨M.toArray⟩ b w2)
      rw [show bl ⟨M.toArray⟩ = M from rfl, HJ.out] at HJ1
      refine HJ1.out.mono ?_
      rintro e w3 ⟨rfl, hb⟩
      have HB3 := hid (below_step HB2.out HB2.out.size hb)
      clear hb HB2
      unfold txt
      go_wp2_with fail
      refine (path_home p _).mono ?_
      rintro e w4 ⟨rfl, hb⟩
      have HB4 := hid (below_step HB3.out HB3.out.size hb)
      rw [HE.out, HH.out]
      clear hb HB3
      unfold txt
      go_wp2_with fail
      refine (path_under ⟨M.toArray⟩ p _).mono ?_
      rintro e w5 ⟨rfl, hb⟩
      have HB5 := hid (below_step HB4.out HB4.out.size hb)
      rw [show bl ⟨M.toArray⟩ = M from rfl, HU1.out]
      clear hb HB4
      have hs1 := size_mk H
      go_wp2_with fail
      refine (path_under (ByteArray.mk #[47] ++ ByteArray.mk H.toArray) p _).mono ?_
      rintro e w6 ⟨rfl, hb⟩
      have HB6 := hid (below_step HB5.out HB5.out.size hb)
      rw [slash_text H, HU2.out]
      clear hb HB5
      go_wp2_with fail
      refine (path_under ⟨#[47]⟩ p _).mono ?_
      rintro e w7 ⟨rfl, hb⟩
      have HB7 := hid (below_step HB6.out HB6.out.size hb)
      rw [show bl ⟨#[47]⟩ = [47] from rfl, HU3.out]
      clear hb HB6
      go_wp2_with fail
      refine (path_under p ⟨M.toArray⟩ _).mono ?_
      rintro e w8 ⟨rfl, hb⟩
      have HB8 := hid (below_step HB7.out HB7.out.size hb)
      rw [show bl ⟨M.toArray⟩ = M from rfl, HU4.out]
      clear hb HB7
      have hpp : ((ByteArray.mk (bl p).toArray).toList == p.toList) = true := by rw [beq_iff_eq, Lib.toList_data]
      go_wp2_with fail
      refine (awake02 _).mono ?_
      rintro e w9 ⟨rfl, hb⟩
      have HB9 := hid (below_step HB8.out HB8.out.size hb)
      clear hb HB8 hpp
      go_wp2_with fail
      go_ret
      exact ⟨rfl, HB9.out⟩
end Go.Proofs.YtjbmphkoafkgfaaDoor
