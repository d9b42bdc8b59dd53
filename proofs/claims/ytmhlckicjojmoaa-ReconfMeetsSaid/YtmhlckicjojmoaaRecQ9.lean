/-
  The document's Quorum where there is none.
-/
import Derived.Test.YtmhlckicjojmoaaRecQ8
namespace Go.Proofs.Ytmhlckicjojmoaa
open Go.RowKit
set_option maxRecDepth 20000
set_option linter.unusedVariables false

set_option maxHeartbeats 1000000 in
theorem refr_quorum_no (a a2 : Option Addr) (c c2 : Nat) (ms lat : List Int) (me size : Int) (w : World) (hr1 : RowAt w a (ms.map (Value.int .i64))) (hr2 : RowAt w a2 (lat.map (Value.int .i64))) (h7 : ms.length ≤ 7) (hm : lat.length ≤ 4611686018427387904)
    (hok : ¬ QuoOk ms lat me size) :
    Calls Try.prog 25 #[.slice a ms.length c, .int .i64 me, .int .i64 size, .slice a2 lat.length c2] w fun e w' => e = .returned (.slice none 0 0) ∧ w = w' := by
  have HR1 := hid hr1
  have HR2 := hid hr2
  have HOK := hid hok
  clear hr1 hr2 hok
  go_enter Try.func25, Try.ntmps25
  go_wp2_with fail
  refine (refr_place a c ms me w HR1.out (by omega)).mono ?_
  rintro e w1 ⟨rfl, rfl⟩
  rcases placeI_cases ms me with ⟨h1, h2⟩ | ⟨p, hp, h1, h2⟩
  · rw [h1]
    clear h1 h2
    go_wp2_with fail
    go_ret
    exact ⟨rfl, rfl⟩
  · rw [h1]
    have hpb : Hid (placeB ms me = true) := by
      show _ = _
      unfold placeB; rw [h1]; exact decide_eq_true (by omega)
    have hs3 : ((p : Int) < 0) = False := propext ⟨fun h => by omega, False.elim⟩
    clear h1 h2
    by_cases hs1 : size < 1
    · go_wp2_with fail
      go_ret
      exact ⟨rfl, rfl⟩
    · by_cases hs2 : (ms.length : Int) < size
      · go_wp2_with fail
        go_ret
        exact ⟨rfl, rfl⟩
      · have hneg : negB lat = true := by
          cases h : negB lat with
          | true => rfl
          | false => exact absurd ⟨hpb.out, by omega, by omega, h⟩ HOK.out
        have HN := hid hneg
        clear hneg
        go_wp2_with fail
        go_loop [9] (fun i => ∃ j : Nat, i = .int .i64 j ∧ j ≤ lat.length ∧ Hid (∀ (m : Nat) (hm : m < lat.length), m < j → ¬ lat[m] < 0)) (fun i => lat.length - (intOf i).toNat)
        case atStart => exact ⟨0, rfl, Nat.zero_le _, fun _ _ h => absurd h (Nat.not_lt_zero _)⟩
        case round =>
          obtain ⟨j, rfl, hj, HP⟩ := hrel
          by_cases hlt : j < lat.length
          · obtain ⟨b, o, rfl, hc⟩ := HR2.out.at j (by simpa using hlt)
            simp only [List.getElem_map] at hc
            have H1 : Hid (¬ lat[j] < 0 → ∀ (m : Nat) (hm : m < lat.length), m < j + 1 → ¬ lat[m] < 0) := fun h m hm hmj => by
              rcases Nat.lt_or_ge m j with g | g
              · exact HP.out m hm g
              · obtain rfl : m = j := by omega
                exact h
            clear HR2 HP
            generalize lat[j] = x at *
            by_cases hx : x < 0
            · clear H1
              go_wp2_with fail
              go_ret
              exact ⟨rfl, rfl⟩
            · have HX := hid (H1.out hx)
              clear H1
              go_wp2_with fail
              go_round
              case rel => exact ⟨j + 1, by go_num, by omega, HX⟩
              case measure => simp [intOf]; omega
          · exfalso
            obtain rfl : j = lat.length := by omega
            obtain ⟨x, hx, hx2⟩ := List.any_eq_true.1 HN.out
            obtain ⟨m, hm, rfl⟩ := List.getElem_of_mem hx
            exact HP.out m hm hm (of_decide_eq_true hx2)

theorem same_yes (v1 v2 : Value) (l : List Int) (w : World) (h1 : IsInts w v1 l) (h2 : IsInts w v2 l) (hm : l.length ≤ 4611686018427387904) :
    Calls Try.prog 16 #[v1, v2] w fun e w' => e = .returned (.bool true) ∧ Below w.heap.size w w' :=
  (same_ints v1 v2 l l w h1 h2 hm hm).mono fun e w' h => ⟨by rw [h.1, decide_eq_true rfl], h.2⟩
theorem IsInts.nil (w : World) : IsInts w (.slice none 0 0) [] := ⟨none, 0, rfl, RowAt.nil _ _, fun _ => rfl, Nat.zero_le _, Nat.zero_le _⟩
theorem quo_len {ms lat q : List Int} {me size : Int} (hr : RightM ms) (hok : QuoOk ms lat me size) (hq : QuoIs ms lat me q) : ((quoL ms me q (size - 1).toNat).length : Int) = size := by
  obtain ⟨o1, o2, o3, o4⟩ := hok
  have hme : me ∈ ms := (placeI_mem ms me).1 (of_decide_eq_true o1)
  obtain ⟨k, rfl⟩ : ∃ k : Nat, size = (k : Int) + 1 := ⟨(size - 1).toNat, by omega⟩
  rw [show ((k : Int) + 1 - 1).toNat = k by omega]
  have h1 := (quo_perm (k := k) hr hme hq.1).length_eq
  have h2 := hq.1.length_eq
  have h3 := oth_len hr hme
  rw [List.length_append, List.length_take] at h1
  simp only [List.length_cons, List.length_nil] at h1
  omega
end Go.Proofs.Ytmhlckicjojmoaa
