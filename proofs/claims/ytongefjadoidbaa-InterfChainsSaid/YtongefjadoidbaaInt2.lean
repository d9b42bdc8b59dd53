/-
  Vectors: Zero, Check, Clone, Join, Covers.
-/
import Derived.Test.YtongefjadoidbaaInt1
import Derived.WalkSpells
import Derived.Lib.SliceRun
namespace Go.Proofs.Ytongefjadoidbaa
open Go.RowKit
set_option maxRecDepth 20000
set_option linter.unusedVariables false

def NumIn (n : Int) : Prop := 0 ≤ n ∧ n ≤ 4611686018427387903
instance (n : Int) : Decidable (NumIn n) := by unfold NumIn; infer_instance
/-- A right vector. -/
def VecOk (l : List Int) : Prop := 1 ≤ l.length ∧ l.length ≤ 7 ∧ ∀ x ∈ l, NumIn x
theorem depsL_ok {n : Nat} {L : List It} (h1 : 1 ≤ n) (h7 : n ≤ 7) (h : ∀ i ∈ L, RangeOk n i) : VecOk (depsL n L) := by
  refine ⟨by rw [depsL_len]; exact h1, by rw [depsL_len]; exact h7, fun x hx => ?_⟩
  obtain ⟨j, hj, rfl⟩ := List.getElem_of_mem hx
  rw [depsL_get]
  exact ⟨depMax_nonneg _ _, depMax_bound _ h⟩
theorem infoInt : (Try.prog.info? 3).map (fun i => (i.zero, i.size, i.bytes)) = some (some (.int .i64 0), 1, 8) := by kernel_rfl

theorem vec_number (n : Int) (w : World) : Calls Try.prog 33 #[.int .i64 n] w fun e w' => e = .returned (.bool (decide (NumIn n))) ∧ w = w' := by
  by_cases h1 : 0 ≤ n
  · by_cases h2 : n ≤ 4611686018427387903
    · have HD : Hid (decide (NumIn n) = true) := decide_eq_true ⟨h1, h2⟩
      go_enter Try.func33, Try.ntmps33
      go_wp2_with fail
      go_ret
      exact ⟨by rw [HD.out]; rfl, rfl⟩
    · have HD : Hid (decide (NumIn n) = false) := decide_eq_false (fun h => h2 h.2)
      go_enter Try.func33, Try.ntmps33
      go_wp2_with fail
      go_ret
      exact ⟨by rw [HD.out]; rfl, rfl⟩
  · have HD : Hid (decide (NumIn n) = false) := decide_eq_false (fun h => h1 h.1)
    go_enter Try.func33, Try.ntmps33
    go_wp2_with fail
    go_ret
    exact ⟨by rw [HD.out]; rfl, rfl⟩

set_option maxHeartbeats 1000000 in
theorem vec_check (a : Option Addr) (c : Nat) (l : List Int) (w : World) (hr : RowAt w a (l.map (Value.int .i64))) (hl : VecOk l) :
    Calls Try.prog 25 #[.slice a l.length c] w fun e w' => e = .returned (.int .i64 0) ∧ w = w' := by
  have HR := hid hr
  have HL := hid hl.2.2
  have h1 := hl.1
  have h7 := hl.2.1
  clear hr hl
  go_enter Try.func25, Try.ntmps25
  go_wp2_with fail
  go_loop [15] (fun s => ∃ k : Nat, s = .int .i64 k ∧ k ≤ l.length) (fun s => l.length - (intOf s).toNat)
  case atStart => exact ⟨0, rfl, Nat.zero_le _⟩
  case round =>
    obtain ⟨k, rfl, hk⟩ := hrel
    by_cases hlt : k < l.length
    · obtain ⟨b, o, rfl, hc⟩ := HR.out.at k (by simpa using hlt)
      simp only [List.getElem_map] at hc
      have HN : Hid (decide (NumIn l[k]) = true) := decide_eq_true (HL.out _ (List.getElem_mem hlt))
      generalize l[k] = x at *
      go_wp2_with fail
      refine (vec_number x w).mono ?_
      rintro e w1 ⟨rfl, rfl⟩
      rw [HN.out]
      go_wp2_with fail
      go_round
      case rel => exact ⟨k + 1, by go_num, by omega⟩
      case measure => simp [intOf]; omega
    · go_wp2_with fail
      go_ret
      exact ⟨rfl, rfl⟩

/-- A new row of ints in the block g. -/
def NewInts (w : World) (l : List Int) (e : Ending) (w' : World) : Prop :=
  ∃ g cap cu, e = .returned (.slice (some ⟨g, 0, none⟩) l.length cap) ∧ ObjAt w' g 3 cu ∧ Cells cu l ∧ l.length ≤ cap ∧ cap ≤ maxLen ∧ w.heap.size ≤ g ∧ Below w.heap.size w w'
theorem NewInts.of_own {w0 w' : World} {v : Value} {l : List Int} {base : Nat} (hl : 0 < l.length) (ho : w'.ownsRow base 3 1 v l.length (l.map (Value.int .i64))) (hb : w0.heap.size ≤ base) (hbl : Below w0.heap.size w0 w') : NewInts w0 l (.returned v) w' := by
  rcases ho.2 with ⟨rfl, h0⟩ | ⟨g, cap, cur, rfl, hb2, hg, hn, hm, hs, ht⟩
  · omega
  · have hlen : l.length ≤ cur.size := by
      have := congrArg List.length ht
      simp at this
      omega
    refine ⟨g, cap, cur, rfl, hg, ⟨hlen, fun m hm => ?_⟩, hn, hm, by omega, hbl⟩
    have := congrArg (fun x => x[m]?) ht
    simp only [List.getElem?_take, List.getElem?_map, List.getElem?_eq_getElem hm, Option.map_some] at this
    rw [if_pos (by omega)] at this
    simpa using this

set_option maxHeartbeats 1000000 in
theorem vec_clone (a : Option Addr) (c : Nat) (l : List Int) (w : World) (hr : RowAt w a (l.map (Value.int .i64))) (h1 : 1 ≤ l.length) (h7 : l.length ≤ 7) :
    Calls Try.prog 27 #[.slice a l.length c] w (NewInts w l) := by
  obtain ⟨b, o, rfl, -⟩ := hr.at 0 (by rw [List.length_map]; omega)
  have HR := hid hr
  have heq := Lib.run_eql_slice_nil (P := Try.prog) w 32 3 (some ⟨b, o, none⟩) l.length c 0 0 Try.underlying32
  have hB : Hid (Below w.heap.size w (w.alloc (.cells #[] 3))) := (Below.refl _ _).alloc (Nat.le_refl _) _
  have hown : Hid ((w.alloc (.cells #[] 3)).ownsRow w.heap.size 3 1 (.slice (some ⟨w.heap.size, 0, none⟩) 0 0) 0 []) := World.ownsRow_made w #[] 0 (Nat.le_refl _) (Nat.zero_le _) rfl
  clear hr
  go_enter Try.func27, Try.ntmps27
  go_wp2_with (at_builtin; refine wpList_app rfl (.tmp 5) (.tmp 6) 32 rfl w.heap.size 3 Try.underlying32 infoInt rfl (by omega) _ 0 [] rfl hown.out _ l.length c (l.map (Value.int .i64)) rfl (by simp) (HR.out.below hB.out) (oneCell_ints _ _) (by unfold maxLen; omega) (by omega) (by simp) (by simp) ?_; intro v' w1 ho1 hg1 _; refine Stop.mk ?_)
  have HO := hid ho1
  have HB := hid (hB.out.grown hg1 (by simp) (fun k hk => (hown.out.lt k hk).1))
  clear ho1 hg1 heq
  refine Stop.go ?_
  go_wp2
  go_ret
  exact NewInts.of_own (by omega) (by simpa using HO.out) (Nat.le_refl _) HB.out

theorem vec_zero (n : Int) (w : World) (h : n < 1 ∨ 7 < n) : Calls Try.prog 26 #[.int .i64 n] w fun e w' => e = .returned (.tuple #[.slice none 0 0, .int .i64 90]) ∧ w = w' := by
  by_cases h1 : n < 1
  · go_enter Try.func26, Try.ntmps26
    go_wp2_with fail
    go_ret2
    exact ⟨rfl, rfl⟩
  · have h2 : 7 < n := by omega
    clear h
    go_enter Try.func26, Try.ntmps26
    go_wp2_with fail
    go_ret2
    exact ⟨rfl, rfl⟩
theorem made_zero {w1 : World} {base n : Nat} (g : Nat) (ho : w1.ownsRow base 3 1 (.slice (some ⟨g, 0, none⟩) n n) n (madeCells (Value.int .i64 0).cells (n * 1)).toList) : ∃ cu, ObjAt w1 g 3 cu ∧ Cells cu (List.replicate n 0) := by
  rcases ho.2 with ⟨e, _⟩ | ⟨g, cap, cur, e, _, hgg, _, _, hcs, ht⟩
  · simp at e
  simp only [Value.slice.injEq, Option.some.injEq, Addr.mk.injEq, and_true, true_and] at e
  obtain ⟨rfl, rfl⟩ := e
  refine ⟨cur, hgg, by rw [List.length_replicate]; omega, fun m hm => ?_⟩
  rw [List.length_replicate] at hm
  have := congrArg (fun x => x[m]?) ht
  simp only [Value.cells, Nat.mul_one] at this
  rw [List.take_of_length_le (by simp; omega)] at this
  simpa [madeCells, hm, Nat.mod_one] using this
set_option maxHeartbeats 1000000 in
theorem vec_zeroN (n : Nat) (w : World) (h1 : 1 ≤ n) (h7 : n ≤ 7) : Calls Try.prog 26 #[.int .i64 n] w fun e w' => ∃ cu, e = .returned (.tuple #[.slice (some ⟨w.heap.size, 0, none⟩) n n, .int .i64 0]) ∧ ObjAt w' w.heap.size 3 cu ∧ Cells cu (List.replicate n 0) ∧ Below w.heap.size w w' := by
  obtain ⟨i0, hi0, hz0, hs0, hy0⟩ := info_parts infoInt
  go_enter Try.func26, Try.ntmps26
  go_wp2_with (at_make; refine wpList_make_full _ rfl _ _ 32 rfl w.heap.size 3 i0 (.int .i64 0) 1 Try.underlying32 hi0 hz0 hs0 _ _ _ _ n rfl rfl rfl rfl (by rw [hy0]; omega) (by unfold maxLen; omega) (Nat.le_refl _) ?_; intro w1 ho hg; refine Stop.mk ?_)
  obtain ⟨cu, hO, hC⟩ := made_zero w.heap.size ho
  have HO := hid hO
  have HC := hid hC
  have HB := hid ((Below.refl w.heap.size w).grown hg (Nat.le_refl _) (fun k hk => by cases hk))
  clear ho hg hO hC
  refine Stop.go ?_
  go_wp2
  go_ret2
  exact ⟨cu, rfl, HO.out, HC.out, HB.out⟩

def mx2 (x y : Int) : Int := if x < y then y else x
def joinL (l m : List Int) : List Int := List.zipWith mx2 l m
theorem joinL_len {l m : List Int} (h : l.length = m.length) : (joinL l m).length = l.length := by unfold joinL; simp [h]
/-- Under way. -/
def joinK (l m : List Int) (k : Nat) : List Int := (joinL l m).take k ++ l.drop k
theorem joinK_len {l m : List Int} (h : l.length = m.length) (k : Nat) (hk : k ≤ l.length) : (joinK l m k).length = l.length := by
  unfold joinK; rw [List.length_append, List.length_take, List.length_drop, joinL_len h]; omega
theorem joinK_get {l m : List Int} (h : l.length = m.length) {k : Nat} (hk : k ≤ l.length) (i : Nat) : (joinK l m k)[i]? = if i < k then (joinL l m)[i]? else l[i]? := by
  have hj := joinL_len h
  unfold joinK
  by_cases hi : i < k
  · rw [if_pos hi, List.getElem?_append_left (by rw [List.length_take]; omega), List.getElem?_take_of_lt hi]
  · rw [if_neg hi, List.getElem?_append_right (by rw [List.length_take]; omega), List.length_take, hj, Nat.min_eq_left hk, List.getElem?_drop]
    congr 1; omega
theorem joinK_succ {l m : List Int} (h : l.length = m.length) {k : Nat} (hk : k < l.length) : (joinK l m k).set k (mx2 l[k] (m[k]'(by omega))) = joinK l m (k + 1) := by
  apply List.ext_getElem?
  intro i
  rw [List.getElem?_set, joinK_get h (by omega), joinK_get h hk, joinK_len h k (by omega)]
  by_cases e : k = i
  · subst e
    rw [if_pos rfl, if_pos hk, if_pos (Nat.lt_succ_self _)]
    have hm : k < m.length := by omega
    unfold joinL
    rw [List.getElem?_zipWith, List.getElem?_eq_getElem hk, List.getElem?_eq_getElem hm]
  · rw [if_neg e]
    by_cases hi : i < k
    · rw [if_pos hi, if_pos (by omega)]
    · rw [if_neg hi, if_neg (by omega)]
theorem joinK_at {l m : List Int} (h : l.length = m.length) {k : Nat} (hk : k < l.length) : (joinK l m k)[k]? = some l[k] := by
  unfold joinK
  rw [List.getElem?_append_right (by rw [List.length_take]; omega), List.length_take, joinL_len h, Nat.min_eq_left (by omega), Nat.sub_self, List.getElem?_drop]
  simp [hk]
theorem joinK_end {l m : List Int} (h : l.length = m.length) : joinK l m l.length = joinL l m := by
  unfold joinK
  rw [List.take_of_length_le (by rw [joinL_len h]; omega), List.drop_length, List.append_nil]

set_option maxHeartbeats 2000000 in
theorem vec_join2 (gb : Nat) (a1 a2 : Option Addr) (c1 c2 : Nat) (l m : List Int) (w : World) (hg0 : w.cell? ⟨gb, 0, none⟩ = some (.slice a1 l.length c1)) (hg1 : w.cell? ⟨gb, 1, none⟩ = some (.slice a2 m.length c2))
    (h1 : RowAt w a1 (l.map (Value.int .i64))) (h2 : RowAt w a2 (m.map (Value.int .i64))) (hl : VecOk l) (hm : VecOk m) (hlen : l.length = m.length) :
    Calls Try.prog 21 #[.slice (some ⟨gb, 0, none⟩) 2 2] w fun e w' => ∃ v, e = .returned (.tuple #[v, .int .i64 0]) ∧ NewInts w (joinL l m) (.returned v) w' := by
  have H1 := hid h1
  have H2 := hid h2
  have HL := hid hl
  have HM := hid hm
  have HLN := hid hlen
  have hl1 := hl.1
  have hl7 := hl.2.1
  have HG1 := hid hg1
  clear h1 h2 hl hm hlen hg1
  go_enter Try.func21, Try.ntmps21
  go_wp2_with fail
  refine (vec_check a1 c1 l w H1.out HL.out).mono ?_
  rintro e w1 ⟨rfl, rfl⟩
  go_wp2_with fail
  refine (vec_clone a1 c1 l w H1.out hl1 hl7).mono ?_
  rintro e w1 ⟨g, cap, cu, rfl, ho, hc, hcp, hcm, hgb, hb⟩
  have HO := hid ho
  have HC := hid hc
  have HB := hid hb
  have hg1 := (hb.cell (p := ⟨gb, 1, none⟩) (lt_of_cell HG1.out)).trans HG1.out
  have HM1 := hid (H2.out.below hb)
  clear hg0 ho hc hb
  have hne : ((m.length : Int) != (l.length : Int)) = false := by rw [HLN.out]; unfold bne; rw [beq_self_eq_true]; rfl
  go_wp2_with fail
  refine wp_loop_rounds 2 ?_
  rw [rounds_succ]
  go_wp2_with fail
  refine (vec_check a2 c2 m w1 HM1.out HM.out).mono ?_
  rintro e w2 ⟨rfl, rfl⟩
  clear hne hg1
  go_wp2_with fail
  go_loopw [42] (fun s wr => ∃ (k : Nat) (cu : Array Value), s = .int .i64 k ∧ k ≤ m.length ∧ Hid (ObjAt wr g 3 cu) ∧ Hid (Cells cu (joinK l m k)) ∧ Hid (Below w.heap.size w wr)) (fun s _ => m.length - (intOf s).toNat)
  case atStart => exact ⟨0, cu, rfl, Nat.zero_le _, HO, HC, HB⟩
  case round =>
    have hrows : ∀ wr, Below w.heap.size w wr → RowAt wr a2 (m.map (Value.int .i64)) := fun wr hb => H2.out.below hb
    have HRO := hid hrows
    clear HO HC HB hrows
    obtain ⟨k, cu2, rfl, hk, HO, HC, HB⟩ := hrel
    by_cases hlt : k < m.length
    · have hkl : k < l.length := by have := HLN.out; omega
      obtain ⟨b, o, rfl, hcm2⟩ := (HRO.out wr HB.out).at k (by simpa using hlt)
      simp only [List.getElem_map] at hcm2
      have hjk := joinK_at HLN.out hkl
      have co : wr.cell? ⟨g, k, none⟩ = some (.int .i64 l[k]) := HO.out.cell k _ (by
        obtain ⟨a, b⟩ := List.getElem?_eq_some_iff.1 hjk
        rw [HC.out.2 k a, b])
      have fo := HO.out.frozen k
      have HX := hid (joinK_succ HLN.out hkl)
      have hmx : mx2 l[k] m[k] = if l[k] < m[k] then m[k] else l[k] := rfl
      rw [hmx] at HX
      have HC2 := hid (HC.out.set k (if l[k] < m[k] then m[k] else l[k]))
      rw [HX.out] at HC2
      have HO2 := hid (HO.out.set k (.int .i64 (if l[k] < m[k] then m[k] else l[k])))
      have HB2 := hid (HB.out.trans ((Kept.set (B := w.heap.size) wr ⟨g, k, none⟩ (.int .i64 (if l[k] < m[k] then m[k] else l[k]))).below hgb))
      have hkI : (k : Int) < l.length := by omega
      clear HX hmx hjk HO HC HB HRO
      generalize l[k] = x at *
      generalize m[k] = y at *
      go_wp2_with fail
      go_roundw
      case rel => exact ⟨k + 1, _, by go_num, by omega, HO2, HC2, HB2⟩
      case measure => simp [intOf]; omega
    · obtain rfl : k = m.length := by omega
      have HCE : Hid (Cells cu2 (joinL l m)) := by
        have h := HC.out
        rw [show joinK l m m.length = joinL l m from by rw [← HLN.out]; exact joinK_end HLN.out] at h
        exact h
      clear HC HRO
      go_wp2_with fail
      rw [rounds_succ]
      go_wp2_with fail
      go_ret2
      have hjl := joinL_len HLN.out
      exact ⟨_, rfl, g, cap, cu2, by rw [hjl]; rfl, HO.out, HCE.out, by rw [hjl]; exact hcp, hcm, hgb, HB.out⟩
end Go.Proofs.Ytongefjadoidbaa
