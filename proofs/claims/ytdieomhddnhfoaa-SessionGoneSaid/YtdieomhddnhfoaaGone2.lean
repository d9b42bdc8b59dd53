/-
  Expire and Renew of the live session.
-/
import Derived.Test.YtdieomhddnhfoaaGone1
import Derived.BigRegion
namespace Go.Proofs.Ytdieomhddnhfoaa
open Go.RowKit
set_option maxRecDepth 20000
set_option linter.unusedVariables false

theorem live_spare (x : Parts1) (a b c d m : Int) (rv : Value) (l : List UInt8) (w : World) (h : TAt w x a b c d rv l) (hm : m ≠ c) :
    Calls Try.prog 13 #[.pointer (some ⟨x.bt, 0, none⟩), .agg #[tkey [97], .int .i64 1], .int .i64 m] w fun e w' => e = .returned (.bool false) ∧ Below w.heap.size w w' := by
  have HH := hid h
  have e1 : (c == m) = false := beq_eq_false_iff_ne.2 (Ne.symm hm)
  clear h hm
  go_enter Try.func13, Try.ntmps13
  go_wp2_with fail
  have HB := hid (below_new (w := w) (.cells #[tkey [97], .int .i64 1] 30))
  have HT := hid (HH.out.below HB.out)
  clear HH
  refine (sess_find x a b c d rv l _ HT.out).mono ?_
  rintro e w1 ⟨rfl, hb⟩
  have HB1 := hid (below_step HB.out HB.out.size hb)
  have HT1 := hid (HT.out.below hb)
  have s4 := ObjAt.cell HT1.out.sess 4 (.int .i64 c) rfl
  clear hb HT HB
  go_wp2_with fail
  go_ret
  exact ⟨rfl, HB1.out⟩

theorem gone_of_live {w w' : World} {x : Parts1} {a b c d : Int} {rv : Value} {l : List UInt8} (h : TAt w x a b c d rv l) (hk : Kept w.heap.size x.ml w w') (hm : MapAt w' x.ml ikey []) (hne : x.mh ≠ x.ml) : GAt w' x 1 [] :=
  ⟨h.tab.kept hk (h.tab.ne_map h.live), h.houses.kept hk hne, h.house.kept hk (h.house.ne_map h.live), hm, by simp, by decide, hne⟩

set_option maxHeartbeats 1000000 in
theorem live_expire (x : Parts1) (a b c d : Int) (rv : Value) (l : List UInt8) (w : World) (h : TAt w x a b c d rv l) (hne : x.mh ≠ x.ml) :
    Calls Try.prog 13 #[.pointer (some ⟨x.bt, 0, none⟩), .agg #[tkey [97], .int .i64 1], .int .i64 c] w fun e w' => e = .returned (.bool true) ∧ GAt w' x 1 [] ∧ KeptS (Touch x) w w' := by
  have HH := hid h
  clear h
  go_enter Try.func13, Try.ntmps13
  go_wp2_with fail
  have HK := hid (ObjAt.new w 30 #[tkey [97], .int .i64 1])
  have HB := hid (below_new (w := w) (.cells #[tkey [97], .int .i64 1] 30))
  have HT := hid (HH.out.below HB.out)
  clear HH
  refine (sess_find x a b c d rv l _ HT.out).mono ?_
  rintro e w1 ⟨rfl, hb⟩
  have HB1 := hid (below_step HB.out HB.out.size hb)
  have HT1 := hid (HT.out.below hb)
  have HK1 := hid (HK.out.below hb)
  clear hb HT HB HK
  generalize w.heap.size = kb at HK1 ⊢
  have s4 := ObjAt.cell HT1.out.sess 4 (.int .i64 c) rfl
  have e1 : (c == c) = true := beq_self_eq_true _
  have c0 := ObjAt.cell HT1.out.tab 0 (.map (some x.mh)) rfl
  have k0 := ObjAt.cell HK1.out 0 (tkey [97]) rfl
  have k1 := ObjAt.cell HK1.out 1 (.int .i64 1) rfl
  have h1 := ObjAt.cell HT1.out.house 1 (.map (some x.ml)) rfl
  have l1 : (Instr.lookup 54 (.map (some x.mh)) (tkey [97]) false).run Try.prog w1.drew = .ok (.pointer (some ⟨x.bh, 0, none⟩)) w1.drew :=
    run_look (w := w1.drew) Try.underlying54 keyT HT1.out.houses [97] (.pointer none) (by kernel_rfl) false
  obtain ⟨W5, hdel, HM5, HK5, hz5, hd5⟩ := run_del (P := Try.prog) Try.underlying60 keyI (w := w1.drew) (HT1.out.drew1.live) 1
  have HMM := hid HM5
  have HKK := hid HK5
  clear HM5 HK5 hz5 hd5
  go_wp2_with fail
  go_region
  go_wp2_with fail
  go_ret
  have hg := gone_of_live (HT1.out.drew1) HKK.out HMM.out hne
  exact ⟨rfl, hg, (KeptS.of_below HB1.out).trans ((KeptS.of_below (Below.refl _ _).drew).trans (KeptS.of_kept HKK.out (.inr (.inr (.inl rfl)))))⟩

theorem gone_renew (x : Parts1) (n : Int) (es : List (Int × Value)) (sb so cap : Nat) (w : World) (h : GAt w x n es) (h0 : w.cell? ⟨sb, so, none⟩ = some (tkey [97])) (h1 : w.cell? ⟨sb, so + 1, none⟩ = some (.int .i64 1)) :
    Calls Try.prog 14 #[.pointer (some ⟨x.bt, 0, none⟩), .slice (some ⟨sb, so, none⟩) 1 cap] w fun e w' => e = .returned (.int .i64 151) ∧ Below w.heap.size w w' := by
  have HH := hid h
  clear h
  go_enter Try.func14, Try.ntmps14
  go_wp2_with fail
  refine wp_loop_rounds 1 ?_
  rw [rounds_succ]
  go_wp2_with fail
  have HB := hid (below_new (w := w) (.cells #[tkey [97], .int .i64 1] 30))
  have HT := hid (HH.out.below HB.out)
  clear HH
  refine (gone_find x n es _ HT.out).mono ?_
  rintro e w1 ⟨rfl, hb⟩
  have HB1 := hid (below_step HB.out HB.out.size hb)
  clear hb HT HB
  go_wp2_with fail
  go_ret
  exact ⟨rfl, HB1.out⟩

theorem TAt.beat {w w' : World} {x : Parts1} {a b c d c' : Int} {rv : Value} {l : List UInt8} (h : TAt w x a b c d rv l) (hk : Kept w.heap.size x.bs w w')
    (hs : ObjAt w' x.bs 50 #[tkey [97], .int .i64 1, .int .i64 a, .int .i64 b, .int .i64 c', .int .i64 d, rv]) (hr : IsBytes w' rv l) : TAt w' x a b c' d rv l :=
  ⟨h.tab.kept hk h.ne.1, h.houses.kept hk h.ne.2.1, h.house.kept hk h.ne.2.2.1, h.live.kept hk h.ne.2.2.2, hs, hr, h.ne⟩

set_option maxHeartbeats 2000000 in
theorem live_renew (x : Parts1) (a b c d : Int) (sb so cap : Nat) (w : World) (h : TAt w x a b c d (.slice none 0 0) []) (hc : 0 ≤ c ∧ c ≤ 1000) (h0 : w.cell? ⟨sb, so, none⟩ = some (tkey [97])) (h1 : w.cell? ⟨sb, so + 1, none⟩ = some (.int .i64 1)) :
    Calls Try.prog 14 #[.pointer (some ⟨x.bt, 0, none⟩), .slice (some ⟨sb, so, none⟩) 1 cap] w fun e w' => e = .returned (.int .i64 0) ∧ TAt w' x a b (c + 1) d (.slice none 0 0) [] ∧ KeptS (Touch x) w w' := by
  have HH := hid h
  clear h
  go_enter Try.func14, Try.ntmps14
  go_wp2_with fail
  refine wp_loop_rounds 2 ?_
  rw [rounds_succ]
  go_wp2_with fail
  have HB := hid (below_new (w := w) (.cells #[tkey [97], .int .i64 1] 30))
  have HT := hid (HH.out.below HB.out)
  clear HH
  refine (sess_find x a b c d _ [] _ HT.out).mono ?_
  rintro e w1 ⟨rfl, hb⟩
  have HB1 := hid (below_step HB.out HB.out.size hb)
  have HT1 := hid (HT.out.below hb)
  have HS0 := hid ((HB1.out.cell (p := ⟨sb, so, none⟩) (lt_of_cell h0)).trans h0)
  have HS1 := hid ((HB1.out.cell (p := ⟨sb, so + 1, none⟩) (lt_of_cell h1)).trans h1)
  have s0 := HS0.out
  have s1 := HS1.out
  clear hb HT HB h0 h1
  go_wp2_with fail
  rw [rounds_succ]
  go_wp2_with fail
  refine wp_loop_rounds 2 ?_
  rw [rounds_succ]
  go_wp2_with fail
  have HK := hid (ObjAt.new w1 30 #[tkey [97], .int .i64 1])
  have HB2 := hid (HB1.out.alloc HB1.out.size (.cells #[tkey [97], .int .i64 1] 30))
  have HT := hid (HT1.out.below (below_new (.cells #[tkey [97], .int .i64 1] 30)))
  clear s0 s1 HS0 HS1 HT1 HB1
  generalize w1.alloc (.cells #[tkey [97], .int .i64 1] 30) = W at HK HB2 HT ⊢
  generalize w1.heap.size = kb at HK ⊢
  have c0 := ObjAt.cell HT.out.tab 0 (.map (some x.mh)) rfl
  have k0 := ObjAt.cell HK.out 0 (tkey [97]) rfl
  have k1 := ObjAt.cell HK.out 1 (.int .i64 1) rfl
  have h1 := ObjAt.cell HT.out.house 1 (.map (some x.ml)) rfl
  have s4 := ObjAt.cell HT.out.sess 4 (.int .i64 c) rfl
  have f4 := ObjAt.frozen HT.out.sess 4
  have l1 : (Instr.lookup 54 (.map (some x.mh)) (tkey [97]) false).run Try.prog W.drew = .ok (.pointer (some ⟨x.bh, 0, none⟩)) W.drew :=
    run_look (w := W.drew) Try.underlying54 keyT HT.out.houses [97] (.pointer none) (by kernel_rfl) false
  have l2 : (Instr.lookup 60 (.map (some x.ml)) (.int .i64 1) false).run Try.prog W.drew = .ok (.pointer (some ⟨x.bs, 0, none⟩)) W.drew :=
    run_look (w := W.drew) Try.underlying60 keyI HT.out.live 1 (.pointer none) (by kernel_rfl) false
  have d0 := k0
  have HKS := hid (Kept.set (B := W.drew.heap.size) W.drew ⟨x.bs, 4, none⟩ (.int .i64 (c + 1)))
  have HSS := hid (ObjAt.set (HT.out.drew1.sess) 4 (.int .i64 (c + 1)))
  go_region
  go_wp2_with fail
  rw [rounds_succ]
  go_wp2_with fail
  go_ret
  refine ⟨rfl, TAt.beat HT.out.drew1 HKS.out HSS.out ⟨none, 0, rfl, RowAt.nil _ _, fun _ => rfl, Nat.le_refl _, Nat.zero_le _⟩, ?_⟩
  exact ((KeptS.of_below HB2.out).trans (KeptS.of_below (Below.refl _ _).drew)).trans (KeptS.of_kept HKS.out (.inr (.inr (.inr rfl))))
end Go.Proofs.Ytdieomhddnhfoaa
