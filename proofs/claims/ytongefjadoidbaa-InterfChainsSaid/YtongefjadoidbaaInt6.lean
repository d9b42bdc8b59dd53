/-
  Interf: Interfere, Covers.
-/
import Derived.Test.YtongefjadoidbaaInt5
namespace Go.Proofs.Ytongefjadoidbaa
open Go.RowKit
set_option maxRecDepth 20000
set_option linter.unusedVariables false

theorem text_beq (a b : List UInt8) : ((ByteArray.mk a.toArray) == (ByteArray.mk b.toArray)) = decide (a = b) := by rw [bytes_beq, beq_dec]
theorem inter_bad1 {k1 k2 : Int} {h1 h2 : List UInt8} (h : ¬ (1 ≤ k1 ∧ k1 ≤ 2)) : interB k1 h1 k2 h2 = false := by unfold interB; rw [decide_eq_false h]; rfl
theorem inter_bad2 {k1 k2 : Int} {h1 h2 : List UInt8} (h : ¬ (1 ≤ k2 ∧ k2 ≤ 2)) : interB k1 h1 k2 h2 = false := by unfold interB; rw [decide_eq_false h, Bool.false_and, Bool.and_false]
theorem inter_two {k1 k2 : Int} {h1 h2 : List UInt8} (a : 1 ≤ k1 ∧ k1 ≤ 2) (b : 1 ≤ k2 ∧ k2 ≤ 2) (h : k1 = 2 ∨ k2 = 2) : interB k1 h1 k2 h2 = true := by
  unfold interB
  rw [decide_eq_true a, decide_eq_true b]
  rcases h with h | h
  · rw [decide_eq_true h]; rfl
  · rw [decide_eq_true h]; simp
theorem inter_home {k1 k2 : Int} {h1 h2 : List UInt8} (a : 1 ≤ k1 ∧ k1 ≤ 2) (b : 1 ≤ k2 ∧ k2 ≤ 2) (h : k1 ≠ 2) (g : k2 ≠ 2) : interB k1 h1 k2 h2 = decide (h1 = h2) := by
  unfold interB
  rw [decide_eq_true a, decide_eq_true b, decide_eq_false h, decide_eq_false g]; rfl

set_option maxHeartbeats 2000000 in
theorem int_two (k1 k2 : Int) (h1 h2 : List UInt8) (d1 d2 : Value) (w : World) :
    Calls Try.prog 24 #[.agg #[.int .i64 k1, .string ⟨h1.toArray⟩, d1], .agg #[.int .i64 k2, .string ⟨h2.toArray⟩, d2]] w fun e w' => e = .returned (.bool (interB k1 h1 k2 h2)) ∧ Below w.heap.size w w' := by
  have heq := text_beq h1 h2
  go_enter Try.func24, Try.ntmps24
  go_upto_region 1 with fail
  have hb1 := below_new (w := w) (.cells #[.int .i64 k1, .string ⟨h1.toArray⟩, d1] 25)
  have HK := hid (ObjAt.new w 25 #[.int .i64 k1, .string ⟨h1.toArray⟩, d1])
  have hs1 : (w.alloc (.cells #[.int .i64 k1, .string ⟨h1.toArray⟩, d1] 25)).heap.size = w.heap.size + 1 := by simp
  generalize w.alloc (.cells #[.int .i64 k1, .string ⟨h1.toArray⟩, d1] 25) = W1 at *
  have hb2 := below_new (w := W1) (.cells #[.int .i64 k2, .string ⟨h2.toArray⟩, d2] 25)
  have HI := hid (ObjAt.new W1 25 #[.int .i64 k2, .string ⟨h2.toArray⟩, d2])
  rw [hs1] at HI
  replace HK := hid (HK.out.below hb2)
  have HB := hid (hb1.trans (hb2.mono (by omega)))
  generalize W1.alloc (.cells #[.int .i64 k2, .string ⟨h2.toArray⟩, d2] 25) = W2 at *
  clear hb1 hb2 hs1
  have a0 := HK.out.cell 0 (.int .i64 k1) rfl
  have a1 := HK.out.cell 1 (.string ⟨h1.toArray⟩) rfl
  have a2 := HK.out.cell 2 d1 rfl
  have b0 := HI.out.cell 0 (.int .i64 k2) rfl
  have b1 := HI.out.cell 1 (.string ⟨h2.toArray⟩) rfl
  have b2 := HI.out.cell 2 d2 rfl
  have hlw : w.heap.size ≤ W2.heap.size := HB.out.size
  generalize hkb : w.heap.size = kb at *
  have HKB := hid hkb
  clear hkb
  go_wp2_with fail
  refine (int_known k1 h1 d1 _).mono ?_
  rintro e w3 ⟨rfl, hb⟩
  replace HK := hid (HK.out.below hb)
  replace HI := hid (HI.out.below hb)
  replace HB := hid (HB.out.trans (hb.mono hlw))
  have hl3 : kb ≤ w3.heap.size := Nat.le_trans hlw hb.size
  clear a0 a1 a2 b0 b1 b2 hb hlw W1
  have a0 := HK.out.cell 0 (.int .i64 k1) rfl
  have a1 := HK.out.cell 1 (.string ⟨h1.toArray⟩) rfl
  have a2 := HK.out.cell 2 d1 rfl
  have b0 := HI.out.cell 0 (.int .i64 k2) rfl
  have b1 := HI.out.cell 1 (.string ⟨h2.toArray⟩) rfl
  have b2 := HI.out.cell 2 d2 rfl
  by_cases hk1 : KindOk k1
  · rw [decide_eq_true hk1]
    unfold KindOk at hk1
    go_wp2_with fail
    refine (int_known k2 h2 d2 _).mono ?_
    rintro e w4 ⟨rfl, hb⟩
    replace HK := hid (HK.out.below hb)
    replace HI := hid (HI.out.below hb)
    replace HB := hid (HB.out.trans (hb.mono hl3))
    clear a0 a1 a2 b0 b1 b2 hb hl3 W2
    have a0 := HK.out.cell 0 (.int .i64 k1) rfl
    have a1 := HK.out.cell 1 (.string ⟨h1.toArray⟩) rfl
    have b0 := HI.out.cell 0 (.int .i64 k2) rfl
    have b1 := HI.out.cell 1 (.string ⟨h2.toArray⟩) rfl
    by_cases hk2 : KindOk k2
    · rw [decide_eq_true hk2]
      unfold KindOk at hk2
      by_cases hz1 : k1 = 0
      · have hzb1 : (k1 == 0) = true := beq_iff_eq.2 hz1
        have HR := hid (inter_bad1 (k1 := k1) (k2 := k2) (h1 := h1) (h2 := h2) (by omega))
        clear hz1 heq
        go_wp2_with fail
        go_ret
        exact ⟨by rw [HR.out]; rfl, by rw [HKB.out]; exact HB.out⟩
      · have hzb1 : (k1 == 0) = false := beq_eq_false_iff_ne.2 hz1
        by_cases hz2 : k2 = 0
        · have hzb2 : (k2 == 0) = true := beq_iff_eq.2 hz2
          have HR := hid (inter_bad2 (k1 := k1) (k2 := k2) (h1 := h1) (h2 := h2) (by omega))
          clear hz1 hz2 heq
          go_wp2_with fail
          go_ret
          exact ⟨by rw [HR.out]; rfl, by rw [HKB.out]; exact HB.out⟩
        · have hzb2 : (k2 == 0) = false := beq_eq_false_iff_ne.2 hz2
          by_cases ht1 : k1 = 2
          · have htb1 : (k1 == 2) = true := beq_iff_eq.2 ht1
            have HR := hid (inter_two (k1 := k1) (k2 := k2) (h1 := h1) (h2 := h2) (by omega) (by omega) (.inl ht1))
            clear hz1 hz2 ht1 heq
            go_wp2_with fail
            go_ret
            exact ⟨by rw [HR.out]; rfl, by rw [HKB.out]; exact HB.out⟩
          · have htb1 : (k1 == 2) = false := beq_eq_false_iff_ne.2 ht1
            by_cases ht2 : k2 = 2
            · have htb2 : (k2 == 2) = true := beq_iff_eq.2 ht2
              have HR := hid (inter_two (k1 := k1) (k2 := k2) (h1 := h1) (h2 := h2) (by omega) (by omega) (.inr ht2))
              clear hz1 hz2 ht1 ht2 heq
              go_wp2_with fail
              go_ret
              exact ⟨by rw [HR.out]; rfl, by rw [HKB.out]; exact HB.out⟩
            · have htb2 : (k2 == 2) = false := beq_eq_false_iff_ne.2 ht2
              have HR := hid (inter_home (k1 := k1) (k2 := k2) (h1 := h1) (h2 := h2) (by omega) (by omega) ht1 ht2)
              clear hz1 hz2 ht1 ht2 heq
              go_wp2_with fail
              go_ret
              exact ⟨by rw [HR.out, ← beq_dec]; rfl, by rw [HKB.out]; exact HB.out⟩
    · rw [decide_eq_false hk2]
      unfold KindOk at hk2
      have HR := hid (inter_bad2 (k1 := k1) (k2 := k2) (h1 := h1) (h2 := h2) (by omega))
      clear hk2 heq
      go_wp2_with fail
      go_ret
      exact ⟨by rw [HR.out]; rfl, by rw [HKB.out]; exact HB.out⟩
  · rw [decide_eq_false hk1]
    unfold KindOk at hk1
    have HR := hid (inter_bad1 (k1 := k1) (k2 := k2) (h1 := h1) (h2 := h2) (by omega))
    clear hk1 heq
    go_wp2_with fail
    go_ret
    exact ⟨by rw [HR.out]; rfl, by rw [HKB.out]; exact HB.out⟩

def idxOf (b : Bool) : Int := if b = true then 0 else -1
/-- The closure of Interfere: cb holds the one command. -/
theorem int_pred (cb : Nat) (k1 k2 : Int) (h1 h2 : List UInt8) (d1 d2 : Value) (w : World) (hc : ObjAt w cb 25 #[.int .i64 k1, .string ⟨h1.toArray⟩, d1]) :
    Calls Try.prog 23 #[.agg #[.int .i64 k2, .string ⟨h2.toArray⟩, d2], .pointer (some ⟨cb, 0, none⟩)] w fun e w' => e = .returned (.bool (interB k1 h1 k2 h2)) ∧ Below w.heap.size w w' := by
  have HB := hid (below_new (w := w) (.cells #[.int .i64 k2, .string ⟨h2.toArray⟩, d2] 25))
  have HC := hid (hc.below HB.out)
  have c0 := HC.out.cell 0 (.int .i64 k1) rfl
  have c1 := HC.out.cell 1 (.string ⟨h1.toArray⟩) rfl
  have c2 := HC.out.cell 2 d1 rfl
  clear hc
  go_enter Try.func23, Try.ntmps23
  go_upto_region 1 with fail
  have hn := ObjAt.new w 25 #[.int .i64 k2, .string ⟨h2.toArray⟩, d2]
  have n0 := hn.cell 0 (.int .i64 k2) rfl
  have n1 := hn.cell 1 (.string ⟨h2.toArray⟩) rfl
  have n2 := hn.cell 2 d2 rfl
  generalize w.alloc (.cells #[.int .i64 k2, .string ⟨h2.toArray⟩, d2] 25) = W at *
  clear hn
  go_wp2_with fail
  refine (int_two k1 k2 h1 h2 d1 d2 W).mono ?_
  rintro e w1 ⟨rfl, hb⟩
  have HB2 := hid (below_step HB.out HB.out.size hb)
  clear hb HB c0 c1 c2 n0 n1 n2 HC
  go_wp2_with fail
  go_ret
  exact ⟨rfl, HB2.out⟩

set_option maxHeartbeats 1000000 in
theorem int_index1 (cb g : Nat) (k1 k2 : Int) (h1 h2 : List UInt8) (d1 d2 : Value) (w : World) (hc : ObjAt w cb 25 #[.int .i64 k1, .string ⟨h1.toArray⟩, d1]) (hg : ObjAt w g 25 #[.int .i64 k2, .string ⟨h2.toArray⟩, d2]) :
    Calls Try.prog 22 #[.slice (some ⟨g, 0, none⟩) 1 1, .func (.func 23) #[] #[.pointer (some ⟨cb, 0, none⟩)]] w fun e w' => e = .returned (.bool (interB k1 h1 k2 h2)) ∧ Below w.heap.size w w' := by
  have hidx : Calls Try.prog 32 #[.slice (some ⟨g, 0, none⟩) 1 1, .func (.func 23) #[] #[.pointer (some ⟨cb, 0, none⟩)]] w fun e w' => e = .returned (.int .i64 (idxOf (interB k1 h1 k2 h2))) ∧ Below w.heap.size w w' := by
    have g0 := hg.cell 0 (.int .i64 k2) rfl
    have g1 := hg.cell 1 (.string ⟨h2.toArray⟩) rfl
    have g2 := hg.cell 2 d2 rfl
    have HC := hid hc
    clear hc hg
    go_enter Try.func32, Try.ntmps32
    go_wp2_with fail
    refine wp_loop_rounds 2 ?_
    rw [rounds_succ]
    go_wp2_with fail
    refine (int_pred cb k1 k2 h1 h2 d1 d2 w HC.out).mono ?_
    rintro e w1 ⟨rfl, hb⟩
    have HB := hid hb
    clear hb g0 g1 g2
    cases hB : interB k1 h1 k2 h2 with
    | true =>
      have HQ := hid (show idxOf (interB k1 h1 k2 h2) = 0 from by rw [hB]; rfl)
      clear hB
      go_wp2_with fail
      go_ret
      exact ⟨by rw [HQ.out]; rfl, HB.out⟩
    | false =>
      have HQ := hid (show idxOf (interB k1 h1 k2 h2) = -1 from by rw [hB]; rfl)
      clear hB
      go_wp2_with fail
      rw [rounds_succ]
      go_wp2_with fail
      go_ret
      exact ⟨by rw [HQ.out]; rfl, HB.out⟩
  have HI := hid hidx
  clear hidx hc hg
  go_enter Try.func22, Try.ntmps22
  go_wp2_with fail
  refine HI.out.mono ?_
  rintro e w1 ⟨rfl, hb⟩
  have HB := hid hb
  clear hb HI
  cases hB : interB k1 h1 k2 h2 with
  | true =>
    rw [show idxOf true = 0 from rfl]
    have HQ := hid hB
    clear hB
    go_wp2_with fail
    go_ret
    exact ⟨by rw [HQ.out]; rfl, HB.out⟩
  | false =>
    rw [show idxOf false = -1 from rfl]
    have HQ := hid hB
    clear hB
    go_wp2_with fail
    go_ret
    exact ⟨by rw [HQ.out]; rfl, HB.out⟩

/-- Interfere with one other. -/
theorem int_inter1 (g : Nat) (k1 k2 : Int) (h1 h2 : List UInt8) (d1 d2 : Value) (w : World) (hg : ObjAt w g 25 #[.int .i64 k2, .string ⟨h2.toArray⟩, d2]) :
    Calls Try.prog 10 #[.agg #[.int .i64 k1, .string ⟨h1.toArray⟩, d1], .slice (some ⟨g, 0, none⟩) 1 1] w fun e w' => e = .returned (.bool (interB k1 h1 k2 h2)) ∧ Below w.heap.size w w' := by
  have HB := hid (below_new (w := w) (.cells #[.int .i64 k1, .string ⟨h1.toArray⟩, d1] 25))
  have HG := hid (hg.below HB.out)
  have HN := hid (ObjAt.new w 25 #[.int .i64 k1, .string ⟨h1.toArray⟩, d1])
  clear hg
  go_enter Try.func10, Try.ntmps10
  go_wp2_with fail
  generalize w.alloc (.cells #[.int .i64 k1, .string ⟨h1.toArray⟩, d1] 25) = W at *
  refine (int_index1 w.heap.size g k1 k2 h1 h2 d1 d2 W HN.out HG.out).mono ?_
  rintro e w1 ⟨rfl, hb⟩
  have HB2 := hid (below_step HB.out HB.out.size hb)
  clear hb HB HG HN
  go_wp2_with fail
  go_ret
  exact ⟨rfl, HB2.out⟩
end Go.Proofs.Ytongefjadoidbaa
