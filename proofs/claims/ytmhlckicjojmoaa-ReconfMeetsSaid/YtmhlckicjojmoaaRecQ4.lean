/-
  slices.Sort of few ints.
-/
import Derived.Test.YtmhlckicjojmoaaRecQ3
namespace Go.Proofs.Ytmhlckicjojmoaa
open Go.RowKit
set_option maxRecDepth 20000
set_option linter.unusedVariables false

def SomeI (e : Ending) : Prop := ∃ k : Int, e = .returned (.int .i64 k)
theorem len64_small (n : Nat) (hn : n ≤ 7) (w : World) : Calls Try.prog 63 #[.int .u64 n] w fun e w' => SomeI e ∧ w = w' := by
  match n, hn with
  | 0, _ => go_enter Try.func63, Try.ntmps63; go_wp2; go_ret; exact ⟨⟨_, rfl⟩, rfl⟩
  | 1, _ => go_enter Try.func63, Try.ntmps63; go_wp2; go_ret; exact ⟨⟨_, rfl⟩, rfl⟩
  | 2, _ => go_enter Try.func63, Try.ntmps63; go_wp2; go_ret; exact ⟨⟨_, rfl⟩, rfl⟩
  | 3, _ => go_enter Try.func63, Try.ntmps63; go_wp2; go_ret; exact ⟨⟨_, rfl⟩, rfl⟩
  | 4, _ => go_enter Try.func63, Try.ntmps63; go_wp2; go_ret; exact ⟨⟨_, rfl⟩, rfl⟩
  | 5, _ => go_enter Try.func63, Try.ntmps63; go_wp2; go_ret; exact ⟨⟨_, rfl⟩, rfl⟩
  | 6, _ => go_enter Try.func63, Try.ntmps63; go_wp2; go_ret; exact ⟨⟨_, rfl⟩, rfl⟩
  | 7, _ => go_enter Try.func63, Try.ntmps63; go_wp2; go_ret; exact ⟨⟨_, rfl⟩, rfl⟩
theorem len_small (n : Nat) (hn : n ≤ 7) (w : World) : Calls Try.prog 49 #[.int .u64 n] w fun e w' => SomeI e ∧ w = w' := by
  go_enter Try.func49, Try.ntmps49
  go_wp2_with fail
  refine (len64_small n hn w).mono ?_
  rintro e w1 ⟨⟨k, rfl⟩, rfl⟩
  go_wp2_with fail
  go_ret
  exact ⟨⟨_, rfl⟩, rfl⟩

set_option maxHeartbeats 1000000 in
theorem sort_ints (g cap : Nat) (l0 : List Int) (w : World) (cur : Array Value) (ho : ObjAt w g 3 cur) (hc : Cells cur l0) (hm : l0.length ≤ 7) :
    Calls Try.prog 41 #[.slice (some ⟨g, 0, none⟩) l0.length cap] w fun e w' =>
      e = .returned (.tuple #[]) ∧ SortedAt w g cur.size l0 (· ≤ ·) w' := by
  have hins := ins_sortO (· ≤ ·) (fun x y z h k => Int.le_trans h k) g cap l0 w cur ho hc (by omega) (fun x _ y _ h => Int.le_of_lt h) (fun _ x y _ _ h => by omega)
  have HI := hid hins
  clear hins ho hc
  go_enter Try.func41, Try.ntmps41
  go_wp2_with fail
  refine (len_small l0.length hm w).mono ?_
  rintro e w1 ⟨⟨k, rfl⟩, rfl⟩
  go_wp2_with fail
  have hpd : Calls Try.prog 48 #[.slice (some ⟨g, 0, none⟩) l0.length cap, .int .i64 0, .int .i64 l0.length, .int .i64 k] w fun e w' => e = .returned (.tuple #[]) ∧ SortedAt w g cur.size l0 (· ≤ ·) w' := by
    go_enter Try.func48, Try.ntmps48
    go_wp2_with fail
    refine wp_loop_rounds 1 ?_
    rw [rounds_succ]
    go_wp2_with fail
    refine HI.out.mono ?_
    rintro e w1 ⟨rfl, hs⟩
    have HS := hid hs
    clear hs HI
    go_wp2_with fail
    exact bodyPost_ret (results_none rfl _ _ _) rfl ⟨rfl, HS.out⟩
  refine hpd.mono ?_
  rintro e w1 ⟨rfl, hs⟩
  have HS := hid hs
  clear hs HI hpd
  go_wp2_with fail
  go_end0
  exact ⟨rfl, HS.out⟩
end Go.Proofs.Ytmhlckicjojmoaa
