/-
  Package session: the first Open of a new table; awake.
-/
import Derived.Test.YtdieomhddnhfoaaSess
import Derived.Test.YtdieomhddnhfoaaPathN
import Derived.Deep.RegionHeld3
import Derived.Maps.RangeRun
namespace Go.Proofs.Ytdieomhddnhfoaa
open Go.RowKit
set_option maxRecDepth 20000
set_option linter.unusedVariables false

theorem run_range_map {P : Program} {mt kt et : TypeId} (hm : P.underlying mt = some (.map kt et)) {w : World} {m : Nat} {κ : Type} {enc : κ → Value} {l : List (κ × Value)} (h : MapAt w m enc l) :
    ∃ clock, (Instr.range mt (.map (some m))).run P w = .ok (.pointer (some ⟨w.heap.size, 0, none⟩)) (w.alloc (.mapIter (some m) clock #[] clock)) := by
  obtain ⟨arr, clock, hb, _⟩ := h
  refine ⟨clock, ?_⟩
  simp only [Instr.range, run_underlying hm, Sem.run_bind, Result.andThen, getObj, Sem.run, hb, newObj]
  rfl
theorem run_next_nothing {P : Program} {w : World} {r m c1 c2 : Nat} {κ : Type} {enc : κ → Value} (h : MapAt w m enc ([] : List (κ × Value))) (hr : w.heap[r]? = some (.mapIter (some m) c1 #[] c2)) (hc : c1 ≤ c2) (ty : TypeId) :
    (Instr.next (.pointer (some ⟨r, 0, none⟩)) false ty).run P w = .ok (.tuple #[.bool false]) w := by
  obtain ⟨arr, clock, hb, he, _⟩ := h
  have h0 : arr = #[] := by
    have := congrArg List.length he
    simp at this
    exact this
  subst h0
  rcases run_next_at (P := P) w ty r m c1 c2 #[] #[] clock hr hb (by simp) hc with ⟨_, h⟩ | ⟨e, he, _⟩
  · exact h
  · simp [leftOf] at he

set_option maxHeartbeats 2000000 in
theorem sess_open1 (bt mh : Nat) (nonce lease : Int) (w : World) (h : NewT w bt mh) (hn : numOk nonce = true) (hl : 1 ≤ lease ∧ lease ≤ 1048576) :
    Calls Try.prog 7 #[.pointer (some ⟨bt, 0, none⟩), .string ⟨#[97]⟩, .int .i64 nonce, .int .i64 lease] w fun e w' => e = .returned (.tuple #[.int .i64 1, .bool true, .int .i64 0]) ∧ Kept w.heap.size mh w w' ∧ ∃ x : Parts1, x.bt = bt ∧ x.mh = mh ∧ TAt w' x nonce lease 0 0 (.slice none 0 0) [] ∧ (x.bt < w'.heap.size ∧ x.mh < w'.heap.size ∧ x.bh < w'.heap.size ∧ x.ml < w'.heap.size ∧ x.bs < w'.heap.size) ∧ w.heap.size ≤ x.bs ∧ w.heap.size ≤ x.bh ∧ w.heap.size ≤ x.ml := by
  have HH := hid h
  have HN := hid hn
  have hname := hid (show nameOk (bl ⟨#[97]⟩) = true from by decide +kernel)
  obtain ⟨hl1, hl2⟩ := hl
  clear h hn
  go_enter Try.func7, Try.ntmps7
  go_wp2_with fail
  refine (path_name ⟨#[97]⟩ _).mono ?_
  rintro e w1 ⟨rfl, hb⟩
  have HB := hid hb
  have HT := hid (HH.out.1.below hb)
  have HM := hid (HH.out.2.1.below hb)
  have HNE := hid HH.out.2.2
  rw [hname.out]
  clear hb HH
  go_wp2_with fail
  refine (sess_number nonce _).mono ?_
  rintro e w2 ⟨rfl, rfl⟩
  rw [HN.out]
  have c0 := ObjAt.cell HT.out 0 (.map (some mh)) rfl
  have l1 : (Instr.lookup 54 (.map (some mh)) (.string ⟨#[97]⟩) false).run Try.prog w1 = .ok (.pointer none) w1 :=
    run_look (w := w1) Try.underlying54 keyT HM.out [97] (.pointer none) (by kernel_rfl) false
  have hmm := @run_makeMap Try.prog
  go_wp2_with fail
  have HB2 := hid (below_step HB.out HB.out.size (((Below.refl w1.heap.size w1).alloc (Nat.le_refl _) (.map #[] 0)).alloc (by simp) (.cells #[.int .i64 0, .map (some w1.heap.size)] 62)))
  have HHO : Hid (ObjAt ((w1.alloc (.map #[] 0)).alloc (.cells #[.int .i64 0, .map (some w1.heap.size)] 62)) (w1.heap.size + 1) 62 #[.int .i64 0, .map (some w1.heap.size)]) := by
    have h := ObjAt.new (w1.alloc (.map #[] 0)) 62 #[.int .i64 0, .map (some w1.heap.size)]
    rw [show (w1.alloc (.map #[] 0)).heap.size = w1.heap.size + 1 from by simp] at h
    exact h
  have HML := hid ((MapAt.new w1 ikey).below (below_new (.cells #[.int .i64 0, .map (some w1.heap.size)] 62)))
  have HB12 := hid (((Below.refl w1.heap.size w1).alloc (Nat.le_refl _) (.map #[] 0)).alloc (by simp) (.cells #[.int .i64 0, .map (some w1.heap.size)] 62))
  have HT2 := hid (HT.out.below HB12.out)
  have HM2 := hid (HM.out.below HB12.out)
  have hbt := HT.out.lt
  have hmh := HM.out.lt
  have hws : w.heap.size ≤ w1.heap.size := HB.out.size
  have hz : ((w1.alloc (.map #[] 0)).alloc (.cells #[.int .i64 0, .map (some w1.heap.size)] 62)).heap.size = w1.heap.size + 2 := by simp
  have HZ := hid hz
  clear hz l1 c0 HT HM HB HB12
  generalize (w1.alloc (.map #[] 0)).alloc (.cells #[.int .i64 0, .map (some w1.heap.size)] 62) = W2 at HB2 HHO HML HT2 HM2 HZ ⊢
  generalize w1.heap.size = K at *
  obtain ⟨clock, hrg⟩ := run_range_map (P := Try.prog) Try.underlying60 HML.out
  rw [hrg]
  clear hrg
  have HB3 := hid (HB2.out.alloc HB2.out.size (.mapIter (some K) clock #[] clock))
  have HHO3 := hid (HHO.out.below (below_new (.mapIter (some K) clock #[] clock)))
  have HML3 := hid (HML.out.below (below_new (.mapIter (some K) clock #[] clock)))
  have HT3 := hid (HT2.out.below (below_new (.mapIter (some K) clock #[] clock)))
  have HM3 := hid (HM2.out.below (below_new (.mapIter (some K) clock #[] clock)))
  have hzz : (W2.alloc (.mapIter (some K) clock #[] clock)).heap.size = K + 3 := by simp [HZ.out]
  have HZ3 := hid hzz
  have hit : (W2.alloc (.mapIter (some K) clock #[] clock)).heap[W2.heap.size]? = some (.mapIter (some K) clock #[] clock) := heap_alloc_new W2 _
  clear hzz HB2 HHO HML HT2 HM2
  rw [HZ.out] at hit
  rw [HZ.out]
  clear HZ
  generalize W2.alloc (.mapIter (some K) clock #[] clock) = W3 at *
  have hnx : ∀ ty, (Instr.next (.pointer (some ⟨K + 2, 0, none⟩)) false ty).run Try.prog W3 = .ok (.tuple #[.bool false]) W3 := fun ty => run_next_nothing HML3.out hit (Nat.le_refl _) ty
  have hlen := run_len (P := Try.prog) Try.underlying60 HML3.out
  have h0 := ObjAt.cell HHO3.out 0 (.int .i64 0) rfl
  have h1 := ObjAt.cell HHO3.out 1 (.map (some K)) rfl
  have f0 := ObjAt.frozen HHO3.out 0
  clear hit
  go_wp2_with fail
  refine wp_loop_rounds 1 ?_
  rw [rounds_succ]
  go_wp2_with fail
  have HK4 : Hid (Kept W3.heap.size (K + 1) W3 (W3.setCell ⟨K + 1, 0, none⟩ (.int .i64 1))) := Kept.set (B := W3.heap.size) W3 ⟨K + 1, 0, none⟩ (.int .i64 1)
  have HHO4 := hid (ObjAt.set HHO3.out 0 (.int .i64 1))
  have HB4 := hid (below_kept HB3.out HK4.out (by omega) HB3.out.size)
  have HML4 := hid (HML3.out.kept HK4.out (by omega))
  have HT4 := hid (HT3.out.kept HK4.out (by omega))
  have HM4 := hid (HM3.out.kept HK4.out (by omega))
  have hz4 : (W3.setCell ⟨K + 1, 0, none⟩ (.int .i64 1)).heap.size = K + 3 := by rw [← HZ3.out]; unfold World.setCell; simp
  clear hnx hlen h0 h1 f0 HHO3 HB3 HML3 HT3 HM3 HK4 HZ3
  generalize W3.setCell ⟨K + 1, 0, none⟩ (.int .i64 1) = W4 at *
  have HZ4 := hid hz4
  clear hz4
  have h0 := ObjAt.cell HHO4.out 0 (.int .i64 1) rfl
  have h1 := ObjAt.cell HHO4.out 1 (.map (some K)) rfl
  obtain ⟨W5, hup, HM5, HK5, hz5, hd5⟩ := run_upd (P := Try.prog) Try.underlying60 keyI
    (w := (W4.alloc (.cells #[.string ⟨#[97]⟩, .int .i64 1, .int .i64 nonce, .int .i64 lease, .int .i64 0, .int .i64 0, .slice none 0 0] 50)).drew) (HML4.out.below (below_new _).drew) 1 (.pointer (some ⟨W4.heap.size, 0, none⟩))
  have g0 := ObjAt.cell (HHO4.out.below (below_new (.cells #[.string ⟨#[97]⟩, .int .i64 1, .int .i64 nonce, .int .i64 lease, .int .i64 0, .int .i64 0, .slice none 0 0] 50))) 0 (.int .i64 1) rfl
  have g1 := ObjAt.cell (HHO4.out.below (below_new (.cells #[.string ⟨#[97]⟩, .int .i64 1, .int .i64 nonce, .int .i64 lease, .int .i64 0, .int .i64 0, .slice none 0 0] 50))) 1 (.map (some K)) rfl
  go_region
  have HX := hid ((below_new (w := W4) (.cells #[.string ⟨#[97]⟩, .int .i64 1, .int .i64 nonce, .int .i64 lease, .int .i64 0, .int .i64 0, .slice none 0 0] 50)).drew)
  have HSX := hid (ObjAt.new W4 50 #[.string ⟨#[97]⟩, .int .i64 1, .int .i64 nonce, .int .i64 lease, .int .i64 0, .int .i64 0, .slice none 0 0])
  have HT5 := hid ((HT4.out.below HX.out).kept HK5 (by omega))
  have HM5h := hid ((HM4.out.below HX.out).kept HK5 (by omega))
  have HHO5 := hid ((HHO4.out.below HX.out).kept HK5 (by omega))
  have HS5 : Hid (ObjAt W5 (K + 3) 50 #[.string ⟨#[97]⟩, .int .i64 1, .int .i64 nonce, .int .i64 lease, .int .i64 0, .int .i64 0, .slice none 0 0]) := by
    have h : ObjAt (W4.alloc (.cells #[.string ⟨#[97]⟩, .int .i64 1, .int .i64 nonce, .int .i64 lease, .int .i64 0, .int .i64 0, .slice none 0 0] 50)).drew W4.heap.size 50 #[.string ⟨#[97]⟩, .int .i64 1, .int .i64 nonce, .int .i64 lease, .int .i64 0, .int .i64 0, .slice none 0 0] := HSX.out
    rw [HZ4.out] at h
    exact h.kept HK5 (by omega)
  rw [HZ4.out] at HM5
  have HB5 := hid (below_kept (below_step HB4.out (by rw [HZ4.out]; omega) HX.out) HK5 (by omega) (Nat.le_trans (by rw [HZ4.out]; omega) HX.out.size))
  have HZ5 := hid (show W5.heap.size = K + 4 from by rw [hz5]; show (W4.alloc _).heap.size = _; simp [HZ4.out])
  have HML5 := hid HM5
  clear g0 g1 h0 h1 hup HM5 HK5 hz5 hd5 HX HSX HHO4 HB4 HML4 HT4 HM4 HZ4
  have c0 := ObjAt.cell HT5.out 0 (.map (some mh)) rfl
  have h0 := ObjAt.cell HHO5.out 0 (.int .i64 1) rfl
  obtain ⟨W6, hup, HM6, HK6, hz6, hd6⟩ := run_upd (P := Try.prog) Try.underlying54 keyT (w := W5) HM5h.out [97] (.pointer (some ⟨K + 1, 0, none⟩))
  have HHO6 := hid (HHO5.out.kept HK6 (by omega))
  have q0 := ObjAt.cell HHO6.out 0 (.int .i64 1) rfl
  go_wp2_with fail
  go_ret3
  refine ⟨rfl, ?_, ⟨bt, mh, K + 1, K, K + 3⟩, rfl, rfl, ⟨HT5.out.kept HK6 (fun e => HNE.out e), HM6, HHO6.out, HML5.out.kept HK6 (by omega), HS5.out.kept HK6 (by omega), ⟨none, 0, rfl, RowAt.nil _ _, fun _ => rfl, Nat.le_refl _, Nat.zero_le _⟩, ?_⟩, ?_⟩
  · exact (Kept.of_below HB5.out).trans (HK6.mono HB5.out.size)
  · refine ⟨?_, ?_, ?_, ?_⟩ <;> simp <;> omega
  · rw [hz6, HZ5.out]
    exact ⟨⟨by show bt < K + 4; omega, by show mh < K + 4; omega, by show K + 1 < K + 4; omega, by show K < K + 4; omega, by show K + 3 < K + 4; omega⟩, by show w.heap.size ≤ K + 3; omega, by show w.heap.size ≤ K + 1; omega, by show w.heap.size ≤ K; omega⟩

theorem awake15 (w : World) : Calls Try.prog 12 #[] w fun e w' => e = .returned (.bool true) ∧ Below w.heap.size w w' := by
  go_enter Try.func12, Try.ntmps12
  go_wp2_with fail
  refine (sess_new _).mono ?_
  rintro e w1 ⟨bt, mh, rfl, hT, h1, h2, hb⟩
  have HB := hid hb
  have HT := hid hT
  clear hb hT
  go_wp2_with fail
  refine (sess_open1 bt mh 7 100 _ HT.out (by decide) (by decide)).mono ?_
  rintro e w2 ⟨rfl, hk, -⟩
  have HB2 := hid (below_kept HB.out hk h2 HB.out.size)
  clear hk HB
  go_wp2_with fail
  go_ret
  exact ⟨rfl, HB2.out⟩
end Go.Proofs.Ytdieomhddnhfoaa
