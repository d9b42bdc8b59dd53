/-
  Package lease: what a keeper with at most one session calls of Go's library.
-/
import Derived.Test.YtebmhjphnlgojaaHolder
import Derived.Test.YtebmhjphnlgojaaOwn
namespace Go.Proofs.Ytebmhjphnlgojaa
open Go.RowKit
set_option maxRecDepth 20000
set_option linter.unusedVariables false

theorem idx_nil (f : Value) (w : World) : Calls Try.prog 35 #[.slice none 0 0, f] w fun e w' => e = .returned (.int .i64 (-1)) ∧ w = w' := by
  go_enter Try.func35, Try.ntmps35
  go_wp2_with fail
  go_loop [8] (fun s => s = .int .i64 0) (fun _ => 0)
  case atStart => rfl
  case round =>
    subst hrel
    go_wp2_with fail
    go_ret
    exact ⟨rfl, rfl⟩
theorem delete_nil (f : Value) (w : World) : Calls Try.prog 27 #[.slice none 0 0, f] w fun e w' => e = .returned (.slice none 0 0) ∧ w = w' := by
  go_enter Try.func27, Try.ntmps27
  go_wp2_with fail
  refine (idx_nil f w).mono ?_
  rintro e w1 ⟨rfl, rfl⟩
  go_wp2_with fail
  go_ret
  exact ⟨rfl, rfl⟩
theorem ins_one (v f : Value) (w : World) : Calls Try.prog 41 #[v, .int .i64 0, .int .i64 1, f] w fun e w' => e = .returned (.tuple #[]) ∧ w = w' := by
  go_enter Try.func41, Try.ntmps41
  go_wp2_with fail
  go_loop [8] (fun s => s = .int .i64 1) (fun _ => 0)
  case atStart => rfl
  case round =>
    subst hrel
    go_wp2_with fail
    go_end0
    exact ⟨rfl, rfl⟩
theorem pdq_one (v f : Value) (k : Int) (w : World) : Calls Try.prog 36 #[v, .int .i64 0, .int .i64 1, .int .i64 k, f] w fun e w' => e = .returned (.tuple #[]) ∧ w = w' := by
  go_enter Try.func36, Try.ntmps36
  go_wp2_with fail
  go_loop [1, 2] (fun s t => s = .int .i64 0 ∧ t = .int .i64 1) (fun _ _ => 0)
  case atStart => exact ⟨rfl, rfl⟩
  case round =>
    obtain ⟨rfl, rfl⟩ := hrel
    go_wp2_with fail
    refine (ins_one v f w).mono ?_
    rintro e w1 ⟨rfl, rfl⟩
    go_wp2_with fail
    (try simp only [Exit.inBlock, Exit.then])
    refine bodyPost_ret (results_none rfl _ _ _) rfl ?_
    exact ⟨rfl, rfl⟩
theorem len64_one (w : World) : Calls Try.prog 50 #[.int .u64 1] w fun e w' => ∃ k : Int, e = .returned (.int .i64 k) ∧ w = w' := by
  go_enter Try.func50, Try.ntmps50
  go_wp2_with fail
  go_ret
  exact ⟨_, rfl, rfl⟩
theorem len_one (w : World) : Calls Try.prog 37 #[.int .u64 1] w fun e w' => ∃ k : Int, e = .returned (.int .i64 k) ∧ w = w' := by
  go_enter Try.func37, Try.ntmps37
  go_wp2_with fail
  refine (len64_one w).mono ?_
  rintro e w1 ⟨k, rfl, rfl⟩
  go_wp2_with fail
  go_ret
  exact ⟨_, rfl, rfl⟩
theorem sort_one (a : Option Addr) (c : Nat) (f : Value) (w : World) : Calls Try.prog 29 #[.slice a 1 c, f] w fun e w' => e = .returned (.tuple #[]) ∧ w = w' := by
  go_enter Try.func29, Try.ntmps29
  go_wp2_with fail
  refine (len_one w).mono ?_
  rintro e w1 ⟨k, rfl, rfl⟩
  go_wp2_with fail
  refine (pdq_one _ f k w).mono ?_
  rintro e w1 ⟨rfl, rfl⟩
  go_wp2_with fail
  go_end0
  exact ⟨rfl, rfl⟩
end Go.Proofs.Ytebmhjphnlgojaa
