/-
  Quorum's closures.
-/
import Derived.Test.YtmhlckicjojmoaaRec10
import Derived.Test.YtmhlckicjojmoaaRecQP
import Derived.BigRegion
namespace Go.Proofs.Ytmhlckicjojmoaa
open Go.RowKit
set_option maxRecDepth 20000
set_option linter.unusedVariables false

set_option maxHeartbeats 1000000 in
theorem index_funcQ (p : Int → Bool) (a : Option Addr) (c : Nat) (l : List Int) (w : World) (hr : RowAt w a (l.map (Value.int .i64))) (hm : l.length ≤ 4611686018427387904)
    (hp : ∀ x, Calls Try.prog 36 #[.int .i64 x] w fun e w' => e = .returned (.bool (p x)) ∧ w = w') :
    Calls Try.prog 44 #[.slice a l.length c, .func (.func 36) #[] #[]] w fun e w' => e = .returned (.int .i64 (idxP p l)) ∧ w = w' := by
  have HR := hid hr
  have HP := hid hp
  clear hr hp
  go_enter Try.func44, Try.ntmps44
  go_wp2_with fail
  go_loop [8] (fun i => ∃ k : Nat, i = .int .i64 k ∧ k ≤ l.length ∧ Hid (∀ (j : Nat) (hj : j < l.length), j < k → p l[j] = false)) (fun i => l.length - (intOf i).toNat)
  case atStart => exact ⟨0, rfl, Nat.zero_le _, fun j _ h => absurd h (Nat.not_lt_zero _)⟩
  case round =>
    obtain ⟨k, rfl, hk, HT⟩ := hrel
    by_cases hlt : k < l.length
    · obtain ⟨b, o, rfl, hc⟩ := HR.out.at k (by simpa using hlt)
      simp only [List.getElem_map] at hc
      have H1 := hid (fun e : p l[k] = true => idxP_at hlt e HT.out)
      have H2 : Hid (p l[k] = false → ∀ (j : Nat) (hj : j < l.length), j < k + 1 → p l[j] = false) := fun h j hj hjk => by
        rcases Nat.lt_or_ge j k with g | g
        · exact HT.out j hj g
        · obtain rfl : j = k := by omega
          exact h
      clear HR HT
      generalize l[k] = x at *
      have hcall := HP.out x
      cases hx : p x with
      | true =>
        rw [hx] at hcall
        have HX := hid (H1.out hx)
        clear hx H1 H2 HP
        go_wp2_with fail
        refine hcall.mono ?_
        rintro e w' ⟨rfl, rfl⟩
        go_wp2_with fail
        go_ret
        exact ⟨by rw [HX.out]; rfl, rfl⟩
      | false =>
        rw [hx] at hcall
        have HX := hid (H2.out hx)
        clear hx H1 H2 HP
        go_wp2_with fail
        refine hcall.mono ?_
        rintro e w' ⟨rfl, rfl⟩
        go_wp2_with fail
        go_round
        case rel => exact ⟨k + 1, by go_num, by omega, HX⟩
        case measure => simp [intOf]; omega
    · obtain rfl : k = l.length := by omega
      go_wp2_with fail
      go_ret
      exact ⟨by rw [idxP_none (fun j hj => HT.out j hj hj)]; rfl, rfl⟩


theorem q_neg (x : Int) (w : World) : Calls Try.prog 36 #[.int .i64 x] w fun e w' => e = .returned (.bool (decide (x < 0))) ∧ w = w' := by
  go_enter Try.func36, Try.ntmps36
  go_wp2_with fail
  go_ret
  exact ⟨rfl, rfl⟩

def negB (l : List Int) : Bool := l.any fun x => decide (x < 0)
theorem idx_neg (l : List Int) : decide (0 ≤ idxP (fun x => decide (x < 0)) l) = negB l := by
  unfold negB
  rcases idxP_cases (fun x => decide (x < 0)) l with ⟨h1, h2⟩ | ⟨k, hk, h1, h2, -⟩
  · rw [h1, (List.any_eq_false (p := fun x => decide (x < 0))).2 (fun x hx => by rw [h2 x hx]; decide)]; decide
  · rw [h1, (List.any_eq_true (p := fun x => decide (x < 0))).2 ⟨l[k], List.getElem_mem hk, h2⟩]; exact decide_eq_true (by omega)
theorem has_neg (a : Option Addr) (c : Nat) (l : List Int) (w : World) (hr : RowAt w a (l.map (Value.int .i64))) (hm : l.length ≤ 4611686018427387904) :
    Calls Try.prog 35 #[.slice a l.length c, .func (.func 36) #[] #[]] w fun e w' => e = .returned (.bool (negB l)) ∧ w = w' := by
  have HI := hid (idx_neg l)
  go_enter Try.func35, Try.ntmps35
  go_wp2_with fail
  refine (index_funcQ (fun x => decide (x < 0)) a c l w hr hm (fun x => q_neg x w)).mono ?_
  rintro e w1 ⟨rfl, rfl⟩
  clear hr
  go_wp2_with fail
  go_ret
  exact ⟨by rw [← HI.out]; rfl, rfl⟩

theorem q_far (lb : Nat) (a : Option Addr) (c : Nat) (lat : List Int) (r : Int) (w : World) (h : w.cell? ⟨lb, 0, none⟩ = some (.slice a lat.length c)) (hr : RowAt w a (lat.map (Value.int .i64))) (h0 : 0 ≤ r) :
    Calls Try.prog 37 #[.int .i64 r, .pointer (some ⟨lb, 0, none⟩)] w fun e w' => e = .returned (.int .i64 (farI lat r)) ∧ w = w' := by
  obtain ⟨k, rfl⟩ : ∃ k : Nat, r = k := ⟨r.toNat, by omega⟩
  by_cases hk : k < lat.length
  · obtain ⟨b, o, rfl, hc⟩ := hr.at k (by simpa using hk)
    simp only [List.getElem_map] at hc
    have HF : Hid (farI lat k = lat[k]) := by
      show _ = _
      unfold farI
      rw [if_pos (by omega)]; simp [hk]
    clear hr
    generalize lat[k] = x at *
    have hki : (k : Int) < lat.length := by omega
    go_enter Try.func37, Try.ntmps37
    go_wp2_with fail
    go_ret
    exact ⟨by rw [HF.out]; rfl, rfl⟩
  · have HF : Hid (farI lat k = 0) := by
      show _ = _
      unfold farI
      rw [if_neg (by omega)]
    have hki : ¬ (k : Int) < lat.length := by omega
    clear hr
    go_enter Try.func37, Try.ntmps37
    go_wp2_with fail
    go_ret
    exact ⟨by rw [HF.out]; rfl, rfl⟩

theorem cmp_compare (x y : Int) (w : World) : Calls Try.prog 40 #[.int .i64 x, .int .i64 y] w fun e w' => e = .returned (.int .i64 (cmpI x y)) ∧ w = w' := by
  by_cases h1 : x < y
  · have HC := hid (show cmpI x y = -1 from if_pos h1)
    go_enter Try.func40, Try.ntmps40
    go_wp2_with fail
    refine (cmp_nan x w).mono ?_
    rintro e w1 ⟨rfl, rfl⟩
    go_wp2_with fail
    refine (cmp_nan y w).mono ?_
    rintro e w1 ⟨rfl, rfl⟩
    go_wp2_with fail
    go_ret
    exact ⟨by rw [HC.out]; rfl, rfl⟩
  · by_cases h2 : y < x
    · have HC := hid (show cmpI x y = 1 from by unfold cmpI; rw [if_neg h1, if_pos h2])
      go_enter Try.func40, Try.ntmps40
      go_wp2_with fail
      refine (cmp_nan x w).mono ?_
      rintro e w1 ⟨rfl, rfl⟩
      go_wp2_with fail
      refine (cmp_nan y w).mono ?_
      rintro e w1 ⟨rfl, rfl⟩
      go_wp2_with fail
      go_ret
      exact ⟨by rw [HC.out]; rfl, rfl⟩
    · have HC := hid (show cmpI x y = 0 from by unfold cmpI; rw [if_neg h1, if_neg h2])
      go_enter Try.func40, Try.ntmps40
      go_wp2_with fail
      refine (cmp_nan x w).mono ?_
      rintro e w1 ⟨rfl, rfl⟩
      go_wp2_with fail
      refine (cmp_nan y w).mono ?_
      rintro e w1 ⟨rfl, rfl⟩
      go_wp2_with fail
      go_ret
      exact ⟨by rw [HC.out]; rfl, rfl⟩

theorem q_cmp (fb lb : Nat) (a : Option Addr) (c : Nat) (lat : List Int) (x y : Int) (w : World) (hf : w.cell? ⟨fb, 0, none⟩ = some (.func (.func 37) #[] #[.pointer (some ⟨lb, 0, none⟩)]))
    (h : w.cell? ⟨lb, 0, none⟩ = some (.slice a lat.length c)) (hr : RowAt w a (lat.map (Value.int .i64))) (hx : 0 ≤ x) (hy : 0 ≤ y) :
    Calls Try.prog 39 #[.int .i64 x, .int .i64 y, .pointer (some ⟨fb, 0, none⟩)] w fun e w' => e = .returned (.int .i64 (cmpI (farI lat x) (farI lat y))) ∧ ∃ n, w' = w.drewN n := by
  have h1 : ∀ r, 0 ≤ r → ∀ n, Calls Try.prog 37 #[.int .i64 r, .pointer (some ⟨lb, 0, none⟩)] (w.drewN n) fun e w' => e = .returned (.int .i64 (farI lat r)) ∧ w' = w.drewN n := fun r h0 n => (q_far lb a c lat r (w.drewN n) h hr h0).mono fun e w' h => ⟨h.1, h.2.symm⟩
  have H1 := hid h1
  clear h1 hr h
  go_enter Try.func39, Try.ntmps39
  go_wp2_with fail
  go_quiet (first | (go_at_call 40; exact Calls.quiet_of_same ((cmp_compare _ _ _).mono fun e w' h => ⟨h.1, h.2.symm⟩)) | (go_at_call 37; exact Calls.quiet_of_same (H1.out _ (by assumption) _)))
  go_wp2_with fail
  go_ret
  exact ⟨rfl, _, rfl⟩
end Go.Proofs.Ytmhlckicjojmoaa
