/-
  IndexFunc with each of the two predicates.
-/
import Derived.Test.YtmhlckicjojmoaaRec6
namespace Go.Proofs.Ytmhlckicjojmoaa
open Go.RowKit
set_option maxRecDepth 20000
set_option linter.unusedVariables false

set_option maxHeartbeats 1000000 in
theorem index_funcO (bv : Value) (p : Int → Bool) (a : Option Addr) (c : Nat) (l : List Int) (w : World) (hr : RowAt w a (l.map (Value.int .i64))) (hm : l.length ≤ 4611686018427387904)
    (hp : ∀ x, Calls Try.prog 32 #[.int .i64 x, bv] w fun e w' => e = .returned (.bool (p x)) ∧ w = w') :
    Calls Try.prog 44 #[.slice a l.length c, .func (.func 32) #[] #[bv]] w fun e w' => e = .returned (.int .i64 (idxP p l)) ∧ w = w' := by
  have HR := hid hr
  have HP := hid hp
  clear hr hp
  go_enter Try.func44, Try.ntmps44
  go_wp2_with fail
  go_loop [8] (fun i => ∃ k : Nat, i = .int .i64 k ∧ k ≤ l.length ∧ Hid (∀ (j : Nat) (hj : j < l.length), j < k → p l[j] = false)) (fun i => l.length - (intOf i).toNat)
  case atStart => exact ⟨0, rfl, Nat.zero_le _, fun j _ h => absurd h (Nat.not_lt_zero _)⟩
  case round =>
    obtain ⟨k, rfl, hk, HT⟩ := hrel
    by_cases hlt : k < l.length
    · obtain ⟨b, o, rfl, hc⟩ := HR.out.at k (by simpa using hlt)
      simp only [List.getElem_map] at hc
      have H1 := hid (fun e : p l[k] = true => idxP_at hlt e HT.out)
      have H2 : Hid (p l[k] = false → ∀ (j : Nat) (hj : j < l.length), j < k + 1 → p l[j] = false) := fun h j hj hjk => by
        rcases Nat.lt_or_ge j k with g | g
        · exact HT.out j hj g
        · obtain rfl : j = k := by omega
          exact h
      clear HR HT
      generalize l[k] = x at *
      have hcall := HP.out x
      cases hx : p x with
      | true =>
        rw [hx] at hcall
        have HX := hid (H1.out hx)
        clear hx H1 H2 HP
        go_wp2_with fail
        refine hcall.mono ?_
        rintro e w' ⟨rfl, rfl⟩
        go_wp2_with fail
        go_ret
        exact ⟨by rw [HX.out]; rfl, rfl⟩
      | false =>
        rw [hx] at hcall
        have HX := hid (H2.out hx)
        clear hx H1 H2 HP
        go_wp2_with fail
        refine hcall.mono ?_
        rintro e w' ⟨rfl, rfl⟩
        go_wp2_with fail
        go_round
        case rel => exact ⟨k + 1, by go_num, by omega, HX⟩
        case measure => simp [intOf]; omega
    · obtain rfl : k = l.length := by omega
      go_wp2_with fail
      go_ret
      exact ⟨by rw [idxP_none (fun j hj => HT.out j hj hj)]; rfl, rfl⟩

set_option maxHeartbeats 1000000 in
theorem index_funcS (bv : Value) (p : Int → Bool) (a : Option Addr) (c : Nat) (l : List Int) (w : World) (hr : RowAt w a (l.map (Value.int .i64))) (hm : l.length ≤ 4611686018427387904)
    (hp : ∀ x, Calls Try.prog 33 #[.int .i64 x, bv] w fun e w' => e = .returned (.bool (p x)) ∧ w = w') :
    Calls Try.prog 44 #[.slice a l.length c, .func (.func 33) #[] #[bv]] w fun e w' => e = .returned (.int .i64 (idxP p l)) ∧ w = w' := by
  have HR := hid hr
  have HP := hid hp
  clear hr hp
  go_enter Try.func44, Try.ntmps44
  go_wp2_with fail
  go_loop [8] (fun i => ∃ k : Nat, i = .int .i64 k ∧ k ≤ l.length ∧ Hid (∀ (j : Nat) (hj : j < l.length), j < k → p l[j] = false)) (fun i => l.length - (intOf i).toNat)
  case atStart => exact ⟨0, rfl, Nat.zero_le _, fun j _ h => absurd h (Nat.not_lt_zero _)⟩
  case round =>
    obtain ⟨k, rfl, hk, HT⟩ := hrel
    by_cases hlt : k < l.length
    · obtain ⟨b, o, rfl, hc⟩ := HR.out.at k (by simpa using hlt)
      simp only [List.getElem_map] at hc
      have H1 := hid (fun e : p l[k] = true => idxP_at hlt e HT.out)
      have H2 : Hid (p l[k] = false → ∀ (j : Nat) (hj : j < l.length), j < k + 1 → p l[j] = false) := fun h j hj hjk => by
        rcases Nat.lt_or_ge j k with g | g
        · exact HT.out j hj g
        · obtain rfl : j = k := by omega
          exact h
      clear HR HT
      generalize l[k] = x at *
      have hcall := HP.out x
      cases hx : p x with
      | true =>
        rw [hx] at hcall
        have HX := hid (H1.out hx)
        clear hx H1 H2 HP
        go_wp2_with fail
        refine hcall.mono ?_
        rintro e w' ⟨rfl, rfl⟩
        go_wp2_with fail
        go_ret
        exact ⟨by rw [HX.out]; rfl, rfl⟩
      | false =>
        rw [hx] at hcall
        have HX := hid (H2.out hx)
        clear hx H1 H2 HP
        go_wp2_with fail
        refine hcall.mono ?_
        rintro e w' ⟨rfl, rfl⟩
        go_wp2_with fail
        go_round
        case rel => exact ⟨k + 1, by go_num, by omega, HX⟩
        case measure => simp [intOf]; omega
    · obtain rfl : k = l.length := by omega
      go_wp2_with fail
      go_ret
      exact ⟨by rw [idxP_none (fun j hj => HT.out j hj hj)]; rfl, rfl⟩

end Go.Proofs.Ytmhlckicjojmoaa
