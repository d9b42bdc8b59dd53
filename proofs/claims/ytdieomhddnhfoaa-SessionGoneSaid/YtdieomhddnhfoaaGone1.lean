/-
  What is asked of a session that is gone.
-/
import Derived.Test.YtdieomhddnhfoaaGoneM
namespace Go.Proofs.Ytdieomhddnhfoaa
open Go.RowKit
set_option maxRecDepth 20000
set_option linter.unusedVariables false

set_option maxHeartbeats 1000000 in
theorem gone_find (x : Parts1) (n : Int) (es : List (Int × Value)) (w : World) (h : GAt w x n es) :
    Calls Try.prog 20 #[.pointer (some ⟨x.bt, 0, none⟩), .agg #[tkey [97], .int .i64 1]] w fun e w' => e = .returned (.tuple #[.pointer none, .int .i64 151]) ∧ Below w.heap.size w w' := by
  have HH := hid h
  clear h
  go_enter Try.func20, Try.ntmps20
  go_wp2_with fail
  have HK := hid (ObjAt.new w 30 #[tkey [97], .int .i64 1])
  have HB := hid (below_new (w := w) (.cells #[tkey [97], .int .i64 1] 30))
  have HT := hid (HH.out.below HB.out)
  clear HH
  generalize w.alloc (.cells #[tkey [97], .int .i64 1] 30) = W at HK HB HT ⊢
  generalize w.heap.size = kb at HK
  have c0 := ObjAt.cell HT.out.tab 0 (.map (some x.mh)) rfl
  have k0 := ObjAt.cell HK.out 0 (tkey [97]) rfl
  have k1 := ObjAt.cell HK.out 1 (.int .i64 1) rfl
  have h0 := ObjAt.cell HT.out.house 0 (.int .i64 n) rfl
  have h1 := ObjAt.cell HT.out.house 1 (.map (some x.ml)) rfl
  have hlk := hid (look_kids (es := es) (k := 1) (fun p hp => (HT.out.kids p hp).1))
  have l1 : ∀ n, (Instr.lookup 54 (.map (some x.mh)) (tkey [97]) false).run Try.prog (W.drewN n) = .ok (.pointer (some ⟨x.bh, 0, none⟩)) (W.drewN n) := fun n =>
    run_look (w := W.drewN n) Try.underlying54 keyT HT.out.houses [97] (.pointer none) (by kernel_rfl) false
  have l2 : ∀ n, (Instr.lookup 60 (.map (some x.ml)) (.int .i64 1) false).run Try.prog (W.drewN n) = .ok (.pointer none) (W.drewN n) := fun n => by
    have h := run_look (w := W.drewN n) Try.underlying60 keyI HT.out.live 1 (.pointer none) (by kernel_rfl) false
    rw [hlk.out] at h
    exact h
  have d1 : decide (n < (1 : Int)) = false := decide_eq_false (by have := HT.out.num; omega)
  have hn1 := HT.out.num
  go_quiet (fail)
  go_wp2_with fail
  go_quiet (fail)
  go_wp2_with fail
  go_quiet (fail)
  go_wp2_with fail
  go_ret2
  exact ⟨rfl, by simp only [World.drewN_drewN]; exact HB.out.trans (below_drewN' _)⟩

theorem gone_begin (x : Parts1) (n : Int) (es : List (Int × Value)) (q : Int) (w : World) (h : GAt w x n es) :
    Calls Try.prog 8 #[.pointer (some ⟨x.bt, 0, none⟩), .agg #[tkey [97], .int .i64 1], .int .i64 q] w fun e w' => (∃ v, e = .returned (.tuple #[v, .bool false, .int .i64 151])) ∧ Below w.heap.size w w' := by
  have HH := hid h
  clear h
  go_enter Try.func8, Try.ntmps8
  go_wp2_with fail
  have HB := hid (below_new (w := w) (.cells #[tkey [97], .int .i64 1] 30))
  have HT := hid (HH.out.below HB.out)
  clear HH
  refine (gone_find x n es _ HT.out).mono ?_
  rintro e w1 ⟨rfl, hb⟩
  have HB1 := hid (below_step HB.out HB.out.size hb)
  clear hb HT HB
  go_wp2_with fail
  go_ret3
  exact ⟨⟨_, rfl⟩, HB1.out⟩

theorem gone_end (x : Parts1) (n : Int) (es : List (Int × Value)) (q : Int) (v : Value) (w : World) (h : GAt w x n es) :
    Calls Try.prog 9 #[.pointer (some ⟨x.bt, 0, none⟩), .agg #[tkey [97], .int .i64 1], .int .i64 q, v] w fun e w' => e = .returned (.int .i64 151) ∧ Below w.heap.size w w' := by
  have HH := hid h
  clear h
  go_enter Try.func9, Try.ntmps9
  go_wp2_with fail
  have HB := hid (below_new (w := w) (.cells #[tkey [97], .int .i64 1] 30))
  have HT := hid (HH.out.below HB.out)
  clear HH
  refine (gone_find x n es _ HT.out).mono ?_
  rintro e w1 ⟨rfl, hb⟩
  have HB1 := hid (below_step HB.out HB.out.size hb)
  clear hb HT HB
  go_wp2_with fail
  go_ret
  exact ⟨rfl, HB1.out⟩

theorem gone_close (x : Parts1) (n : Int) (es : List (Int × Value)) (w : World) (h : GAt w x n es) :
    Calls Try.prog 15 #[.pointer (some ⟨x.bt, 0, none⟩), .agg #[tkey [97], .int .i64 1]] w fun e w' => e = .returned (.int .i64 151) ∧ Below w.heap.size w w' := by
  have HH := hid h
  clear h
  go_enter Try.func15, Try.ntmps15
  go_wp2_with fail
  have HB := hid (below_new (w := w) (.cells #[tkey [97], .int .i64 1] 30))
  have HT := hid (HH.out.below HB.out)
  clear HH
  refine (gone_find x n es _ HT.out).mono ?_
  rintro e w1 ⟨rfl, hb⟩
  have HB1 := hid (below_step HB.out HB.out.size hb)
  clear hb HT HB
  go_wp2_with fail
  go_ret
  exact ⟨rfl, HB1.out⟩

theorem gone_expire (x : Parts1) (n : Int) (es : List (Int × Value)) (q : Int) (w : World) (h : GAt w x n es) :
    Calls Try.prog 13 #[.pointer (some ⟨x.bt, 0, none⟩), .agg #[tkey [97], .int .i64 1], .int .i64 q] w fun e w' => e = .returned (.bool false) ∧ Below w.heap.size w w' := by
  have HH := hid h
  clear h
  go_enter Try.func13, Try.ntmps13
  go_wp2_with fail
  have HB := hid (below_new (w := w) (.cells #[tkey [97], .int .i64 1] 30))
  have HT := hid (HH.out.below HB.out)
  clear HH
  refine (gone_find x n es _ HT.out).mono ?_
  rintro e w1 ⟨rfl, hb⟩
  have HB1 := hid (below_step HB.out HB.out.size hb)
  clear hb HT HB
  go_wp2_with fail
  go_ret
  exact ⟨rfl, HB1.out⟩
end Go.Proofs.Ytdieomhddnhfoaa
