/-
  Stable sort, sort.
-/
import Derived.Test.YtmhlckicjojmoaaRecQ2
namespace Go.Proofs.Ytmhlckicjojmoaa
open Go.RowKit
set_option maxRecDepth 20000
set_option linter.unusedVariables false

set_option maxHeartbeats 1000000 in
theorem stable_cmp (bv : Value) (t : Int → Int → Int) (R : Int → Int → Prop) (tr : ∀ x y z, R x y → R y z → R x z) (g cap : Nat) (l0 : List Int) (w : World) (cur : Array Value) (ho : ObjAt w g 3 cur) (hc : Cells cur l0) (hm : l0.length ≤ 12)
    (hp : ∀ x ∈ l0, ∀ y ∈ l0, ∀ w', Below g w w' → Calls Try.prog 39 #[.int .i64 x, .int .i64 y, bv] w' fun e w'' => e = .returned (.int .i64 (t x y)) ∧ ∃ n, w'' = w'.drewN n)
    (hT : ∀ x ∈ l0, ∀ y ∈ l0, t x y < 0 → R x y) (hF : ∀ (i : Nat) (x y : Int), l0[i]? = some x → y ∈ l0.take i → ¬ t x y < 0 → R y x) :
    Calls Try.prog 38 #[.slice (some ⟨g, 0, none⟩) l0.length cap, .func (.func 39) #[] #[bv]] w fun e w' =>
      e = .returned (.tuple #[]) ∧ SortedAt w g cur.size l0 R w' := by
  have hins := ins_sortQ bv t R tr g cap l0 w cur ho hc (by omega) hp hT hF
  have HI := hid hins
  clear hins hp hT hF tr ho hc
  go_enter Try.func38, Try.ntmps38
  go_wp2_with fail
  have hst : Calls Try.prog 46 #[.slice (some ⟨g, 0, none⟩) l0.length cap, .int .i64 l0.length, .func (.func 39) #[] #[bv]] w fun e w' => e = .returned (.tuple #[]) ∧ SortedAt w g cur.size l0 R w' := by
    go_enter Try.func46, Try.ntmps46
    go_wp2_with fail
    refine wp_loop_rounds 1 ?_
    rw [rounds_succ]
    go_wp2_with fail
    refine HI.out.mono ?_
    rintro e w1 ⟨rfl, hs⟩
    have HS := hid hs
    clear hs HI
    go_wp2_with fail
    refine wp_loop_rounds 1 ?_
    rw [rounds_succ]
    go_wp2_with fail
    go_end0
    exact ⟨rfl, HS.out⟩
  refine hst.mono ?_
  rintro e w1 ⟨rfl, hs⟩
  have HS := hid hs
  clear hs HI hst
  go_wp2_with fail
  go_end0
  exact ⟨rfl, HS.out⟩
end Go.Proofs.Ytmhlckicjojmoaa
