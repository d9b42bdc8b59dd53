/-
  awake of 19.
-/
import Derived.Test.YtmhlckicjojmoaaRec4
namespace Go.Proofs.Ytmhlckicjojmoaa
open Go.RowKit
set_option maxRecDepth 20000
set_option linter.unusedVariables false

theorem right146 : RightM [1, 4, 6] := by
  refine ⟨?_, by decide, by decide⟩
  intro j hj _
  match j, hj with
  | 0, _ => exact ⟨show (0 : Int) ≤ 1 by decide, show (1 : Int) ≤ 31 by decide, fun h => absurd h (by decide)⟩
  | 1, _ => exact ⟨show (0 : Int) ≤ 4 by decide, show (4 : Int) ≤ 31 by decide, fun _ => show (1 : Int) < 4 by decide⟩
  | 2, _ => exact ⟨show (0 : Int) ≤ 6 by decide, show (6 : Int) ≤ 31 by decide, fun _ => show (4 : Int) < 6 by decide⟩
theorem awake19 (w : World) : Calls Try.prog 11 #[] w fun e w' => e = .returned (.bool true) ∧ Below w.heap.size w w' := by
  have HRW := hid (RowAt.new w #[.int .i64 1, .int .i64 4, .int .i64 6] 3 (0, 0))
  have HB := hid (below_new (w := w) (.cells #[.int .i64 1, .int .i64 4, .int .i64 6] 3))
  have HP : Hid (placeP [1, 4, 6] 4 = 1 ∧ placeB [1, 4, 6] 4 = true) := ⟨by decide, by decide⟩
  go_enter Try.func11, Try.ntmps11
  go_wp2_with fail
  refine (rec_new (some ⟨w.heap.size, 0, none⟩) 3 [1, 4, 6] 3 _ HRW.out (by simp) (by decide)).mono ?_
  rintro e w1 ⟨hb, ⟨h1, rfl⟩ | ⟨h1, h2, rfl⟩ | ⟨h1, h2, b, rfl, h3, h4, -⟩⟩
  · exact absurd ⟨by decide, by decide⟩ h1
  · exact absurd right146 h2
  · have HB1 := hid (below_step HB.out HB.out.size hb)
    have HE := hid h3
    clear hb h3 h4 h1 HRW HB
    go_wp2_with fail
    refine (ep_place b [1, 4, 6] 3 4 w1 HE.out h2).mono ?_
    rintro e w2 ⟨rfl, rfl⟩
    rw [HP.out.1, HP.out.2]
    go_wp2_with fail
    refine (ep_number b [1, 4, 6] 3 w1 HE.out).mono ?_
    rintro e w2 ⟨rfl, rfl⟩
    go_wp2_with fail
    go_ret
    exact ⟨rfl, HB1.out⟩
end Go.Proofs.Ytmhlckicjojmoaa
