/-
  Reconf: places; the small functions.
-/
import Derived.Test.YtmhlckicjojmoaaRec1
namespace Go.Proofs.Ytmhlckicjojmoaa
open Go.RowKit
set_option maxRecDepth 20000
set_option linter.unusedVariables false

theorem refr_place (a : Option Addr) (c : Nat) (l : List Int) (r : Int) (w : World) (hr : RowAt w a (l.map (Value.int .i64))) (hm : l.length ≤ 4611686018427387904) :
    Calls Try.prog 13 #[.slice a l.length c, .int .i64 r] w fun e w' => e = .returned (.int .i64 (placeI l r)) ∧ w = w' := by
  have HR := hid hr
  clear hr
  go_enter Try.func13, Try.ntmps13
  go_wp2_with fail
  go_loop [5] (fun i => ∃ k : Nat, i = .int .i64 k ∧ k ≤ l.length ∧ Hid (∀ (j : Nat) (hj : j < l.length), j < k → l[j] ≠ r)) (fun i => l.length - (intOf i).toNat)
  case atStart => exact ⟨0, rfl, Nat.zero_le _, fun j _ h => absurd h (Nat.not_lt_zero _)⟩
  case round =>
    obtain ⟨k, rfl, hk, HT⟩ := hrel
    by_cases hlt : k < l.length
    · obtain ⟨b, o, rfl, hc⟩ := HR.out.at k (by simpa using hlt)
      simp only [List.getElem_map] at hc
      have H1 := hid (fun e : l[k] = r => placeI_at hlt e HT.out)
      have H2 : Hid (l[k] ≠ r → ∀ (j : Nat) (hj : j < l.length), j < k + 1 → l[j] ≠ r) := fun h j hj hjk => by
        rcases Nat.lt_or_ge j k with g | g
        · exact HT.out j hj g
        · obtain rfl : j = k := by omega
          exact h
      clear HR HT
      generalize l[k] = x at *
      by_cases hx : x = r
      · have HX := hid hx
        have e1 : (x == r) = true := beq_iff_eq.2 hx
        clear hx
        go_wp2_with fail
        go_ret
        exact ⟨by rw [H1.out HX.out]; rfl, rfl⟩
      · have HX := hid hx
        have e1 : (x == r) = false := beq_eq_false_iff_ne.2 hx
        clear hx
        go_wp2_with fail
        go_round
        case rel => exact ⟨k + 1, by go_num, by omega, H2.out HX.out⟩
        case measure => simp [intOf]; omega
    · obtain rfl : k = l.length := by omega
      go_wp2_with fail
      go_ret
      exact ⟨by rw [placeI_none (fun j hj => HT.out j hj hj)]; rfl, rfl⟩

theorem mem_index (a : Option Addr) (c : Nat) (l : List Int) (r : Int) (w : World) (hr : RowAt w a (l.map (Value.int .i64))) (hm : l.length ≤ 4611686018427387904) :
    Calls Try.prog 45 #[.slice a l.length c, .int .i64 r] w fun e w' => e = .returned (.int .i64 (placeI l r)) ∧ w = w' := by
  have HR := hid hr
  clear hr
  go_enter Try.func45, Try.ntmps45
  go_wp2_with fail
  go_loop [8] (fun i => ∃ k : Nat, i = .int .i64 k ∧ k ≤ l.length ∧ Hid (∀ (j : Nat) (hj : j < l.length), j < k → l[j] ≠ r)) (fun i => l.length - (intOf i).toNat)
  case atStart => exact ⟨0, rfl, Nat.zero_le _, fun j _ h => absurd h (Nat.not_lt_zero _)⟩
  case round =>
    obtain ⟨k, rfl, hk, HT⟩ := hrel
    by_cases hlt : k < l.length
    · obtain ⟨b, o, rfl, hc⟩ := HR.out.at k (by simpa using hlt)
      simp only [List.getElem_map] at hc
      have H1 := hid (fun e : l[k] = r => placeI_at hlt e HT.out)
      have H2 : Hid (l[k] ≠ r → ∀ (j : Nat) (hj : j < l.length), j < k + 1 → l[j] ≠ r) := fun h j hj hjk => by
        rcases Nat.lt_or_ge j k with g | g
        · exact HT.out j hj g
        · obtain rfl : j = k := by omega
          exact h
      clear HR HT
      generalize l[k] = x at *
      by_cases hx : x = r
      · have HX := hid hx
        have e1 : (r == x) = true := beq_iff_eq.2 hx.symm
        clear hx
        go_wp2_with fail
        go_ret
        exact ⟨by rw [H1.out HX.out]; rfl, rfl⟩
      · have HX := hid hx
        have e1 : (r == x) = false := beq_eq_false_iff_ne.2 (Ne.symm hx)
        clear hx
        go_wp2_with fail
        go_round
        case rel => exact ⟨k + 1, by go_num, by omega, H2.out HX.out⟩
        case measure => simp [intOf]; omega
    · obtain rfl : k = l.length := by omega
      go_wp2_with fail
      go_ret
      exact ⟨by rw [placeI_none (fun j hj => HT.out j hj hj)]; rfl, rfl⟩

theorem mem_contains (a : Option Addr) (c : Nat) (l : List Int) (r : Int) (w : World) (hr : RowAt w a (l.map (Value.int .i64))) (hm : l.length ≤ 4611686018427387904) :
    Calls Try.prog 34 #[.slice a l.length c, .int .i64 r] w fun e w' => e = .returned (.bool (decide (0 ≤ placeI l r))) ∧ w = w' := by
  go_enter Try.func34, Try.ntmps34
  go_wp2_with fail
  refine (mem_index a c l r w hr hm).mono ?_
  rintro e w1 ⟨rfl, rfl⟩
  go_wp2_with fail
  go_ret
  exact ⟨rfl, rfl⟩

theorem ep_number (b : Nat) (l : List Int) (n : Int) (w : World) (h : EpAt w b l n) :
    Calls Try.prog 15 #[.pointer (some ⟨b, 0, none⟩)] w fun e w' => e = .returned (.int .i64 n) ∧ w = w' := by
  obtain ⟨v, ho, -⟩ := h
  have c1 := ObjAt.cell ho 1 (.int .i64 n) rfl
  go_enter Try.func15, Try.ntmps15
  go_wp2_with fail
  go_ret
  exact ⟨rfl, rfl⟩

def judgeI (n q : Int) : Int := if q < n then 1 else if n < q then 2 else 0
theorem ep_judge (b : Nat) (l : List Int) (n q : Int) (w : World) (h : EpAt w b l n) :
    Calls Try.prog 21 #[.pointer (some ⟨b, 0, none⟩), .int .i64 q] w fun e w' => e = .returned (.int .i64 (judgeI n q)) ∧ w = w' := by
  obtain ⟨v, ho, -⟩ := h
  have c1 := ObjAt.cell ho 1 (.int .i64 n) rfl
  by_cases h1 : q < n
  · have HE : Hid (judgeI n q = 1) := if_pos h1
    go_enter Try.func21, Try.ntmps21
    go_wp2_with fail
    go_ret
    exact ⟨by rw [HE.out]; rfl, rfl⟩
  · by_cases h2 : n < q
    · have HE : Hid (judgeI n q = 2) := (if_neg h1).trans (if_pos h2)
      go_enter Try.func21, Try.ntmps21
      go_wp2_with fail
      go_ret
      exact ⟨by rw [HE.out]; rfl, rfl⟩
    · have HE : Hid (judgeI n q = 0) := (if_neg h1).trans (if_neg h2)
      go_enter Try.func21, Try.ntmps21
      go_wp2_with fail
      go_ret
      exact ⟨by rw [HE.out]; rfl, rfl⟩
end Go.Proofs.Ytmhlckicjojmoaa
