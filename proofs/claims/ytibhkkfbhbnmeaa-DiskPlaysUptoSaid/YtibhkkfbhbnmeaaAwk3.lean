/-
  awake of 03.
-/
import Derived.Test.YtibhkkfbhbnmeaaDskC
import Derived.Test.YtibhkkfbhbnmeaaDsk7
import Derived.Lib.SlBytesConst
namespace Go.Proofs.Ytibhkkfbhbnmeaa
open Go.RowKit
set_option maxRecDepth 20000
set_option linter.unusedVariables false

theorem total_abs (F : List Fl) : total F = ((abs F).map fun a => a.2.1.length).sum := by
  unfold total abs
  rw [List.map_map]; rfl
theorem appE_abs {F : List Fl} {A : List Ab} (h : abs F = A) (cap : Int) (nm l : List UInt8) : appE F cap nm l = if fname nm then (if cap < (((A.map fun a => a.2.1.length).sum : Nat) : Int) + l.length then 32 else 0) else 30 := by
  unfold appE
  rw [total_abs, h]
theorem file_any (F : List Fl) (nm : List UInt8) : (fileOf F nm).isSome = (abs F).any (fun a => decide (a.1 = nm)) := by
  unfold fileOf abs
  induction F with
  | nil => rfl
  | cons x F ih =>
    by_cases h : x.nm = nm
    · simp [h]
    · simp only [List.find?_cons, h, decide_false, List.map_cons, List.any_cons, Bool.false_or]
      exact ih
theorem findE_abs {F : List Fl} {A : List Ab} (h : abs F = A) (ss : List ByteArray) : findE F ss = if ss.all (fun s => fname (bl s)) then (if ss.all (fun s => A.any (fun a => decide (a.1 = bl s))) then 0 else 31) else 30 := by
  unfold findE
  simp only [file_any, h]
theorem mem_abs {F : List Fl} {A : List Ab} (h : abs F = A) {x : Fl} (hx : x ∈ F) : (x.nm, x.b, x.safe) ∈ A := by
  rw [← h]
  exact List.mem_map.2 ⟨x, hx, rfl⟩
theorem len_abs {F : List Fl} {A : List Ab} (h : abs F = A) : F.length = A.length := by
  rw [← h]; unfold abs; rw [List.length_map]
theorem Moved.base {w0 w w' : World} {m B : Nat} {F F' : List Fl} (h : Moved w w' m F F') (hb : Below B w0 w) (hB : B ≤ w.heap.size) (hm : ∀ k, TabHas m F k → B ≤ k) : Below B w0 w' ∧ (∀ k, TabHas m F' k → B ≤ k) ∧ B ≤ w'.heap.size :=
  ⟨hb.trans (h.2.below hm hB), fun k hk => (h.1 k hk).elim (hm k) (Nat.le_trans hB), Nat.le_trans hB h.2.size⟩

set_option maxHeartbeats 4000000 in
theorem awake03 (w : World) : Calls Try.prog 12 #[] w fun e w' => e = .returned (.bool true) ∧ Below w.heap.size w w' := by
  have kc := fun (w : World) (C : Array Value) (n c : Nat) => Lib.run_convert_bytes_const (P := Try.prog) w 32 5 C n c Try.underlying32 Try.underlying5
  go_enter Try.func12, Try.ntmps12
  go_wp2_with fail
  refine (disk_new 99 w (by decide)).mono ?_
  rintro e w1 ⟨d, m, rfl, hd, hb, hd1, hm1⟩
  have HD := hid hd
  have HB := hid hb
  clear hd hb
  go_wp2_with fail
  have hbn := below_new (w := w1) (.cells #[.int .u8 104, .int .u8 101, .int .u8 108, .int .u8 108, .int .u8 111] 5 (5, 6))
  have hBn := HB.out.alloc HB.out.size (.cells #[.int .u8 104, .int .u8 101, .int .u8 108, .int .u8 108, .int .u8 111] 5 (5, 6))
  refine (disk_append d m 99 [] _ _ [104, 101, 108, 108, 111] _ (HD.out.below hbn) ⟨_, _, rfl, RowAt.new w1 #[.int .u8 104, .int .u8 101, .int .u8 108, .int .u8 108, .int .u8 111] 5 (5, 6), (fun e => by cases e), by decide, by decide⟩ (fun k e => by
    cases e
    intro hh
    exact absurd (HD.out.tab.lt _ hh) (Nat.lt_irrefl _)) (by decide) (by decide) (by decide)).mono ?_
  rintro e w2 ⟨rfl, F2, hd2, ha2, hv2⟩
  have hA2 : abs F2 = [([97], [104, 101, 108, 108, 111], 0)] := ha2.trans (by decide)
  have hz : ∀ s : ByteArray, s = ByteArray.mk #[97] → appE [] 99 (bl s) [104, 101, 108, 108, 111] = 0 := fun s e => by rw [e]; decide
  rw [hz _ rfl]
  have HV2 := hid (hv2.base hBn (Nat.le_trans HB.out.size hbn.size) (fun k hk => by rcases hk with rfl | ⟨x, hx, -⟩; exact hm1; cases hx))
  have HD2 := hid hd2
  have HA2 := hid hA2
  clear hd2 hA2 ha2 hv2 hz hbn hBn HD HB hm1 hd1
  go_wp2_with fail
  have hbn := below_new (w := w2) (.cells #[.string (ByteArray.mk #[97])] 9)
  have hBn := HV2.out.1.alloc HV2.out.2.2 (.cells #[.string (ByteArray.mk #[97])] 9)
  refine (disk_sync d m 99 F2 _ [ByteArray.mk #[97]] _ _ (HD2.out.below hbn) (RowAt.new w2 #[.string (ByteArray.mk #[97])] 9 _) (by decide)).mono ?_
  rintro e w3 ⟨rfl, F3, hd3, ha3, hv3⟩
  have hz : findE F2 [ByteArray.mk #[97]] = 0 := by rw [findE_abs HA2.out]; decide
  rw [hz] at ha3 ⊢
  have hA3 : abs F3 = [([97], [104, 101, 108, 108, 111], 5)] := by rw [ha3, HA2.out]; decide
  have HV3 := hid (hv3.base hBn (Nat.le_trans HV2.out.2.2 hbn.size) HV2.out.2.1)
  have HD3 := hid hd3
  have HA3 := hid hA3
  clear hd3 hA3 ha3 hv3 hz hbn hBn HD2 HA2 HV2
  go_wp2_with fail
  have hbn := below_new (w := w3) (.cells #[.int .u8 32, .int .u8 121, .int .u8 111, .int .u8 117] 5 (4, 5))
  have hBn := HV3.out.1.alloc HV3.out.2.2 (.cells #[.int .u8 32, .int .u8 121, .int .u8 111, .int .u8 117] 5 (4, 5))
  have ht3 : total F3 = 5 := by rw [total_abs, HA3.out]; decide
  refine (disk_append d m 99 F3 _ _ [32, 121, 111, 117] _ (HD3.out.below hbn) ⟨_, _, rfl, RowAt.new w3 #[.int .u8 32, .int .u8 121, .int .u8 111, .int .u8 117] 5 (4, 5), (fun e => by cases e), by decide, by decide⟩ (fun k e => by
    cases e
    intro hh
    exact absurd (HD3.out.tab.lt _ hh) (Nat.lt_irrefl _)) (by rw [ht3]; decide) (by decide) (by decide)).mono ?_
  rintro e w4 ⟨rfl, F4, hd4, ha4, hv4⟩
  have hz : ∀ s : ByteArray, s = ByteArray.mk #[97] → appE F3 99 (bl s) [32, 121, 111, 117] = 0 := fun s e => by rw [e, appE_abs HA3.out]; decide
  rw [hz _ rfl] at ha4 ⊢
  have hA4 : abs F4 = [([97], [104, 101, 108, 108, 111, 32, 121, 111, 117], 5)] := by rw [ha4, HA3.out]; decide
  have HV4 := hid (hv4.base hBn (Nat.le_trans HV3.out.2.2 hbn.size) HV3.out.2.1)
  have HD4 := hid hd4
  have HA4 := hid hA4
  clear hd4 hA4 ha4 hv4 hz hbn hBn HD3 HA3 HV3 ht3 kc
  go_wp2_with fail
  have hbn := below_new (w := w4) (.cells #[.int .i64 2] 3)
  have hBn := HV4.out.1.alloc HV4.out.2.2 (.cells #[.int .i64 2] 3)
  have ht4 : total F4 = 9 := by rw [total_abs, HA4.out]; decide
  refine (disk_crash d m 99 F4 _ [2] _ _ (HD4.out.below hbn) (RowAt.new w4 #[.int .i64 2] 3 _) (by decide) (by decide) (fun x hx => by
    have := mem_abs HA4.out hx
    simp only [List.mem_singleton, Prod.mk.injEq] at this
    rw [this.2.1, this.2.2]; decide) (by rw [ht4]; decide) (fun x hx => by
    have := mem_abs HA4.out hx
    simp only [List.mem_singleton, Prod.mk.injEq] at this
    rw [this.1]; decide) (by rw [len_abs HA4.out]; decide) (fun _ ad e _ => by
    cases e
    intro hh
    exact absurd (HD4.out.tab.lt _ hh) (Nat.lt_irrefl _))).mono ?_
  rintro e w5 ⟨rfl, F5, hd5, ha5, hv5⟩
  have hA5 : abs F5 = [([97], [104, 101, 108, 108, 111, 32, 121], 7)] := by rw [ha5, HA4.out]; unfold crashA; rw [show sortL (List.map Prod.fst [(([97] : List UInt8), ([104, 101, 108, 108, 111, 32, 121, 111, 117] : List UInt8), 5)]) = [[97]] from by unfold sortL; simp]; decide
  have HV5 := hid (hv5.base hBn (Nat.le_trans HV4.out.2.2 hbn.size) HV4.out.2.1)
  have HD5 := hid hd5
  have HA5 := hid hA5
  clear hd5 hA5 ha5 hv5 hbn hBn HD4 HA4 HV4 ht4
  go_wp2_with fail
  have ht5 : total F5 = 7 := by rw [total_abs, HA5.out]; decide
  refine (disk_read d m 99 F5 (ByteArray.mk #[97]) _ HD5.out (by rw [ht5]; decide)).mono ?_
  rintro e w6 ⟨hb, ⟨h1, -⟩ | ⟨-, x, v, hx, hxn, rfl, ho⟩⟩
  · exact absurd (by rw [findE_abs HA5.out]; decide) h1
  · have hxb := mem_abs HA5.out hx
    simp only [List.mem_singleton, Prod.mk.injEq] at hxb
    rw [hxb.2.1] at ho
    have he := run_bytes (P := Try.prog) Try.underlying32 Try.underlying5 Try.underlying9 (owns_bytes ho)
    have HB6 := hid (below_step HV5.out.1 HV5.out.2.2 hb)
    obtain ⟨a, c, rfl, _⟩ := owns_bytes ho
    clear ho hb
    simp only [List.length_cons, List.length_nil, Nat.reduceAdd] at he
    go_wp2_with fail
    go_ret
    exact ⟨rfl, HB6.out⟩
end Go.Proofs.Ytibhkkfbhbnmeaa
