/-
  The document's Name: is a text a name?
-/
import Derived.Test.YteiifligdfnifaaDoorPathN
namespace Go.Proofs.YteiifligdfnifaaDoor
open Go.RowKit
set_option maxRecDepth 20000
set_option linter.unusedVariables false

set_option maxHeartbeats 1000000 in
theorem ref_name (s : ByteArray) (w : World) : Calls Tryd.prog 30 #[.string s] w fun e w' => e = .returned (.bool (nameOk (bl s))) ∧ w = w' := by
  by_cases h1 : s.size < 1
  · rw [name_short h1]
    go_enter Tryd.func30, Tryd.ntmps30
    go_wp2
    go_ret
    exact ⟨rfl, rfl⟩
  by_cases h2 : 32 < s.size
  · rw [name_long h2]
    go_enter Tryd.func30, Tryd.ntmps30
    go_wp2
    go_ret
    exact ⟨rfl, rfl⟩
  cases h3 : s.toList == [46] with
  | true =>
    rw [name_dot h3]
    go_enter Tryd.func30, Tryd.ntmps30
    go_wp2
    go_ret
    exact ⟨rfl, rfl⟩
  | false =>
  have g3 := bytes_ne h3
  cases h4 : s.toList == [46, 46] with
  | true =>
    rw [name_dots h4]
    go_enter Tryd.func30, Tryd.ntmps30
    go_wp2
    go_ret
    exact ⟨rfl, rfl⟩
  | false =>
  have g4 := bytes_ne h4
  rw [name_rest (by omega) (by omega) h3 h4]
  go_enter Tryd.func30, Tryd.ntmps30
  go_wp2_with fail
  go_loop [3] (fun i => ∃ k : Nat, i = .int .i64 k ∧ k ≤ s.size ∧ Hid (restOk s k = restOk s 0)) (fun i => s.size - (intOf i).toNat)
  case atStart => exact ⟨0, rfl, Nat.zero_le _, rfl⟩
  case round =>
    clear h3 h4 g3 g4
    obtain ⟨k, rfl, hk, hr⟩ := hrel
    by_cases hlt : k < s.size
    · have hs := hid (restOk_step s k hlt)
      have hb := byt_cases s[k]
      rcases hb with ⟨ho, hb⟩ | ⟨ho, hb⟩
      · have HR : Hid (restOk s (k + 1) = restOk s 0) := by show _ = _; rw [← hr.out, hs.out, ho]; rfl
        clear ho
        rcases hb with hb | hb | hb | hb | hb
        all_goals
          (first | have e0 : ((s[k].toNat : Int) == 46) = true := beq_iff_eq.2 (by omega) | have e0 : ((s[k].toNat : Int) == 46) = false := beq_eq_false_iff_ne.2 (by omega))
          (first | have e1 : ((s[k].toNat : Int) == 95) = true := beq_iff_eq.2 (by omega) | have e1 : ((s[k].toNat : Int) == 95) = false := beq_eq_false_iff_ne.2 (by omega))
          (first | have e2 : ((s[k].toNat : Int) == 45) = true := beq_iff_eq.2 (by omega) | have e2 : ((s[k].toNat : Int) == 45) = false := beq_eq_false_iff_ne.2 (by omega))
          go_wp2
          go_round
          case rel => exact ⟨k + 1, by go_num, by omega, HR⟩
          case measure => simp [intOf]; omega
      · have HR : Hid (restOk s 0 = false) := by show _ = _; rw [← hr.out, hs.out, ho]; rfl
        clear ho
        rcases hb with hb | hb | hb | hb | hb
        all_goals
          (first | have e0 : ((s[k].toNat : Int) == 46) = true := beq_iff_eq.2 (by omega) | have e0 : ((s[k].toNat : Int) == 46) = false := beq_eq_false_iff_ne.2 (by omega))
          (first | have e1 : ((s[k].toNat : Int) == 95) = true := beq_iff_eq.2 (by omega) | have e1 : ((s[k].toNat : Int) == 95) = false := beq_eq_false_iff_ne.2 (by omega))
          (first | have e2 : ((s[k].toNat : Int) == 45) = true := beq_iff_eq.2 (by omega) | have e2 : ((s[k].toNat : Int) == 45) = false := beq_eq_false_iff_ne.2 (by omega))
          go_wp2
          all_goals first
            | (go_ret; exact ⟨by rw [HR.out]; rfl, rfl⟩)
            | (exfalso; rename_i hz; simp at hz; omega)
    · have HR := hid (hr.out.symm.trans (restOk_end s k hlt))
      go_wp2
      go_ret
      exact ⟨by rw [HR.out]; rfl, rfl⟩
end Go.Proofs.YteiifligdfnifaaDoor
