/-
  Interf: Covers of one that is covered; awake.
-/
import Derived.Test.YtongefjadoidbaaInt6
namespace Go.Proofs.Ytongefjadoidbaa
open Go.RowKit
set_option maxRecDepth 20000
set_option linter.unusedVariables false

set_option maxHeartbeats 1000000 in
theorem vec_covers1 (g r : Nat) (a : Option Addr) (c : Nat) (l : List Int) (num : Int) (w : World) (hr : RowAt w a (l.map (Value.int .i64))) (hl : VecOk l) (hg : ObjAt w g 37 #[.int .i64 r, .int .i64 num])
    (h1 : r < l.length) (h2 : 1 ≤ num) (h3 : num ≤ l[r]) :
    Calls Try.prog 11 #[.slice a l.length c, .slice (some ⟨g, 0, none⟩) 1 1] w fun e w' => e = .returned (.bool true) ∧ Below w.heap.size w w' := by
  have g0 := hg.cell 0 (.int .i64 r) rfl
  have g1 := hg.cell 1 (.int .i64 num) rfl
  have HR := hid hr
  have HL := hid hl
  clear hr hl hg
  go_enter Try.func11, Try.ntmps11
  go_wp2_with fail
  refine (vec_check a c l w HR.out HL.out).mono ?_
  rintro e w1 ⟨rfl, rfl⟩
  go_wp2_with fail
  refine wp_loop_rounds 2 ?_
  rw [rounds_succ]
  go_upto_region 6 with fail
  have hn := ObjAt.new w 37 #[.int .i64 r, .int .i64 num]
  have HB := hid (below_new (w := w) (.cells #[.int .i64 r, .int .i64 num] 37))
  have n0 := hn.cell 0 (.int .i64 r) rfl
  have n1 := hn.cell 1 (.int .i64 num) rfl
  obtain ⟨b, o, rfl, hc⟩ := (HR.out.below HB.out).at r (by simpa using h1)
  simp only [List.getElem_map] at hc
  generalize w.alloc (.cells #[.int .i64 r, .int .i64 num] 37) = W at *
  generalize l[r] = x at *
  have b0 : decide ((r : Int) < 0) = false := decide_eq_false (by omega)
  have b1 : decide ((l.length : Int) ≤ r) = false := decide_eq_false (by omega)
  have b1n : decide (l.length ≤ r) = false := decide_eq_false (by omega)
  have b2 : decide (num < 1) = false := decide_eq_false (by omega)
  have b3 : decide (x < num) = false := decide_eq_false (by omega)
  have r0 : (0 : Int) ≤ r := by omega
  have r1 : (r : Int) < l.length := by omega
  clear g0 g1 hn
  go_quiet (fail)
  clear b0 b1 b1n b2 b3 n0 n1 hc
  have HB2 : Hid (Below w.heap.size w (W.drewN nq)) := HB.out.trans (below_drewN' nq)
  generalize W.drewN nq = W2 at *
  go_wp2_with fail
  rw [rounds_succ]
  go_wp2_with fail
  go_ret
  exact ⟨rfl, HB2.out⟩

theorem it_a : It.mk 1 [97] (.slice none 0 0) 0 1 1 = (⟨1, [97], .slice none 0 0, 0, 1, 1⟩ : It) := rfl
set_option maxHeartbeats 1000000 in
theorem awake10 (w : World) : Calls Try.prog 8 #[] w fun e w' => e = .returned (.bool true) ∧ Below w.heap.size w w' := by
  go_enter Try.func8, Try.ntmps8
  go_wp2_with fail
  refine (interf_new 2 w (by decide) (by decide)).mono ?_
  rintro e w1 ⟨x, rfl, hx, hh, hb⟩
  have HX := hid hx
  have HH := hid hh
  have HB := hid hb
  clear hx hh hb
  go_wp2_with fail
  refine (idx_add x 2 [] ⟨1, [97], .slice none 0 0, 0, 1, 1⟩ w1 HX.out).mono ?_
  rintro e w2 ⟨rfl, ⟨x2, hx2, hi2, hh2⟩, hk⟩
  have hS : addS 2 [] ⟨1, [97], .slice none 0 0, 0, 1, 1⟩ = [⟨1, [97], .slice none 0 0, 0, 1, 1⟩] := if_pos (by unfold GoodIt KindOk RangeOk; simp)
  have hE : addErr 2 ⟨1, [97], .slice none 0 0, 0, 1, 1⟩ = 0 := by unfold addErr KindOk RangeOk; simp
  rw [hS] at hi2
  rw [hE]
  have HX2 := hid hi2
  have HB2 := hid (hk.below HH.out HB.out.size)
  replace HB2 := hid (HB.out.trans HB2.out)
  have HXI := hid hx2
  clear hk hi2 hh2 HX HH HB hS hE hx2
  go_wp2_with fail
  rw [← HXI.out]
  refine (idx_attr x2 2 _ 1 [97] (.slice none 0 0) w2 HX2.out).mono ?_
  rintro e w3 ⟨hb, hcase⟩
  rcases hcase with ⟨hk, -⟩ | ⟨-, v, rfl, hv⟩
  · exact absurd (show KindOk 1 from ⟨by decide, by decide⟩) hk
  · have hI : interL 1 [97] [⟨1, [97], .slice none 0 0, 0, 1, 1⟩] = [⟨1, [97], .slice none 0 0, 0, 1, 1⟩] := by unfold interL interB; simp
    rw [hI] at hv ⊢
    obtain ⟨g, cap, cu, hve, ho, hc, -, -, -, -⟩ := hv
    simp only [Ending.returned.injEq] at hve
    subst hve
    rw [depsL_len]
    have c0 := ho.cell 0 (.int .i64 1) (by rw [hc.2 0 (by rw [depsL_len]; decide), depsL_get]; rfl)
    have HB3 := hid (below_step HB2.out HB2.out.size hb)
    clear ho hc hb hI
    rw [show seqMax [⟨1, [97], .slice none 0 0, 0, 1, 1⟩] + 1 = 2 from rfl]
    go_wp2_with fail
    go_ret
    exact ⟨rfl, HB3.out⟩
end Go.Proofs.Ytongefjadoidbaa
