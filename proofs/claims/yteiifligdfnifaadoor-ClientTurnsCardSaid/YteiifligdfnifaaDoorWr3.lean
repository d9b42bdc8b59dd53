/-
  wire.Writer's buffer (bytes.Buffer, only written): grow, where nothing was written yet.
-/
import Derived.Test.YteiifligdfnifaaDoorWr1
namespace Go.Proofs.YteiifligdfnifaaDoor
open Go.RowKit
set_option maxRecDepth 100000
set_option linter.unusedVariables false

theorem nil_done {w w0 : World} {b n : Nat} {lr : Int} {bad : Bool} {M : Array Value} (hb0 : Below w.heap.size w w0) (ho : ObjAt w0 b 130 (wcells (.slice none 0 0) lr bad)) :
    ObjAt ((w0.setCell ⟨b, 0, none⟩ (.slice (some ⟨w0.heap.size, 0, none⟩) n 64)).alloc (.cells M 5 (0, 0))) b 130 (wcells (.slice (some ⟨w0.heap.size, 0, none⟩) n 64) lr bad) ∧
    ((w0.setCell ⟨b, 0, none⟩ (.slice (some ⟨w0.heap.size, 0, none⟩) n 64)).alloc (.cells M 5 (0, 0))).heap[w0.heap.size]? = some (.cells M 5 (0, 0)) ∧
    Kept w.heap.size b w ((w0.setCell ⟨b, 0, none⟩ (.slice (some ⟨w0.heap.size, 0, none⟩) n 64)).alloc (.cells M 5 (0, 0))) := by
  have hz : (w0.setCell ⟨b, 0, none⟩ (.slice (some ⟨w0.heap.size, 0, none⟩) n 64)).heap.size = w0.heap.size := by unfold World.setCell; simp
  refine ⟨(ho.set 0 _).below (below_new _), ?_, ((Kept.of_below hb0).trans (Kept.set _ ⟨b, 0, none⟩ _)).trans ((Kept.of_below (below_new _)).mono (by rw [hz]; exact hb0.size))⟩
  have h := heap_alloc_new (w0.setCell ⟨b, 0, none⟩ (.slice (some ⟨w0.heap.size, 0, none⟩) n 64)) (.cells M 5 (0, 0))
  rw [hz] at h; exact h

set_option maxHeartbeats 6400000 in
theorem grow_nil_small (b n : Nat) (lr : Int) (bad : Bool) (w : World) (ho : ObjAt w b 130 (wcells (.slice none 0 0) lr bad)) (hn : 1 ≤ n) (h64 : n ≤ 64) :
    Calls Tryd.prog 69 #[.pointer (some ⟨b, 0, none⟩), .int .i64 n] w fun e w' => e = .returned (.int .i64 0) ∧ ∃ N cap2 cells, ObjAt w' b 130 (wcells (.slice (some ⟨N, 0, none⟩) n cap2) lr bad) ∧ w'.heap[N]? = some (.cells cells 5 (0, 0)) ∧
      cells.size = cap2 ∧ n ≤ cap2 ∧ cap2 ≤ maxLen ∧ w.heap.size ≤ N ∧ Kept w.heap.size b w w' := by
  obtain ⟨i0, hi, hz0, hz1, hz2⟩ := info_parts info5
  obtain ⟨M, hM⟩ : ∃ M, M = madeCells (Value.int .u8 0).cells ((64 : Int).toNat * i0.size) := ⟨_, rfl⟩
  have hMs : M.size = 64 := by rw [hM, size_madeCells, hz1]; rfl
  have hmk : ∀ W : World, (Instr.makeSlice 37 (.int .i64 (n : Int)) (.int .i64 64)).run Tryd.prog W = .ok (.slice (some ⟨W.heap.size, 0, none⟩) n 64) (W.alloc (.cells M 5)) := fun W => by
    have h := run_makeSlice (P := Tryd.prog) W 37 5 i0 (.int .u8 0) Tryd.underlying37 hi hz0 .i64 .i64 (n : Int) 64 (by omega) (by omega) (by rw [hz1]; decide) (by rw [hz2]; decide) (by decide)
    rw [← hM] at h
    simpa using h
  clear hM hi hz0 hz1 hz2
  have hnil : ∀ W, (binOp .eql 37 (.slice none 0 0) (.slice none 0 0)).run Tryd.prog W = .ok (.bool true) W := fun W => Lib.run_eql_slice_nil_nil W _ _ Tryd.underlying37
  go_enter Tryd.func69, Tryd.ntmps69
  go_wp2_with (go_at_call 71; refine (buf_len b _ 0 0 _ (ho.cell 0 _ rfl) (ho.cell 1 _ rfl) (Nat.zero_le _)).mono ?_)
  rintro e W0 ⟨rfl, q, hW0⟩
  have ho0 : ObjAt W0 b 130 (wcells (.slice none 0 0) lr bad) := by rw [hW0]; exact ho
  have hb0 : Below w.heap.size w W0 := by rw [hW0]; exact below_drewN' q
  have hz0 : W0.heap.size = w.heap.size := by rw [hW0]; rfl
  have HZ0 := hid hz0
  have HB0 := hid hb0
  have HO0 := hid ho0
  have c0 := ho0.cell 0 _ rfl
  have c1 := ho0.cell 1 _ rfl
  have f0 := ho0.frozen 0
  have f1 := ho0.frozen 1
  have hbW := ho0.lt
  have c0a : ∀ o, (W0.alloc o).cell? ⟨b, 0, none⟩ = some (.slice none 0 0) := fun o => (World.cell?_of_block (a := ⟨b, 0, none⟩) (Below.heap_alloc W0 o b hbW)).trans c0
  have f0a : ∀ o, (W0.alloc o).frozen? ⟨b, 0, none⟩ = false := fun o => (World.frozen?_of_block (a := ⟨b, 0, none⟩) (Below.heap_alloc W0 o b hbW)).trans f0
  have HMS := hid hMs
  clear hW0 hb0 hz0 ho0 ho hMs
  go_wp2_with (go_at_call 68; refine (tryGrow_none b _ 0 0 n _ c0 (Nat.le_refl _) (Nat.zero_le _) (by omega)).mono ?_; rintro e w' ⟨rfl, rfl⟩)
  go_ret
  obtain ⟨q1, q2, q3⟩ := nil_done (n := n) (M := M) HB0.out HO0.out
  exact ⟨rfl, w'.heap.size, 64, M, q1, q2, HMS.out, h64, by unfold maxLen; omega, Nat.le_of_eq HZ0.out.symm, q3⟩

set_option maxHeartbeats 6400000 in
theorem grow_nil_big (b n : Nat) (lr : Int) (bad : Bool) (w : World) (ho : ObjAt w b 130 (wcells (.slice none 0 0) lr bad)) (h64 : 64 < n) (hlim : n ≤ 140737488355328) :
    Calls Tryd.prog 69 #[.pointer (some ⟨b, 0, none⟩), .int .i64 n] w fun e w' => e = .returned (.int .i64 0) ∧ ∃ N cap2 cells, ObjAt w' b 130 (wcells (.slice (some ⟨N, 0, none⟩) n cap2) lr bad) ∧ w'.heap[N]? = some (.cells cells 5 (0, 0)) ∧
      cells.size = cap2 ∧ n ≤ cap2 ∧ cap2 ≤ maxLen ∧ w.heap.size ≤ N ∧ Kept w.heap.size b w w' := by
  have hnil : ∀ W, (binOp .eql 37 (.slice none 0 0) (.slice none 0 0)).run Tryd.prog W = .ok (.bool true) W := fun W => Lib.run_eql_slice_nil_nil W _ _ Tryd.underlying37
  go_enter Tryd.func69, Tryd.ntmps69
  go_wp2_with (go_at_call 71; refine (buf_len b _ 0 0 _ (ho.cell 0 _ rfl) (ho.cell 1 _ rfl) (Nat.zero_le _)).mono ?_)
  rintro e W0 ⟨rfl, q, hW0⟩
  have ho0 : ObjAt W0 b 130 (wcells (.slice none 0 0) lr bad) := by rw [hW0]; exact ho
  have hb0 : Below w.heap.size w W0 := by rw [hW0]; exact below_drewN' q
  have hz0 : W0.heap.size = w.heap.size := by rw [hW0]; rfl
  have HZ0 := hid hz0
  have HB0 := hid hb0
  have HO0 := hid ho0
  have c0 := ho0.cell 0 _ rfl
  have c1 := ho0.cell 1 _ rfl
  have f0 := ho0.frozen 0
  have f1 := ho0.frozen 1
  have hbW := ho0.lt
  clear hW0 hb0 hz0 ho0 ho
  go_wp2_with (go_at_call 68; refine (tryGrow_none b _ 0 0 n _ c0 (Nat.le_refl _) (Nat.zero_le _) (by omega)).mono ?_; rintro e w' ⟨rfl, rfl⟩)
  have hwn : IntKind.i64.wrap (n : Int) = n := by rw [IntKind.wrap_i64]; omega
  have hn : 1 ≤ n := by omega
  go_region_with (
      go_at_call 73
      refine (Tryd.bytes_growSlice_nil n _ hn hlim).mono ?_
      rintro e w2 ⟨cap2, cells, rfl, hN, hcsz, hcap2, hcm2, hbel⟩
      have ho2 := hid (HO0.out.below (undrew hbel))
      have d0 := ho2.out.cell 0 _ rfl
      have d1 := ho2.out.cell 1 _ rfl
      have e0 := ho2.out.frozen 0
      have e1 := ho2.out.frozen 1)
  all_goals
    go_wp2
    go_ret
    have hNb : w'.heap.size ≠ b := by omega
    obtain ⟨q1, q2, q3⟩ := grow_done (m := n) (cap2 := cap2) (x := .slice (some ⟨w'.heap.size, 0, none⟩) 0 cap2) HB0.out (undrew hbel) ho2.out hN hNb
    exact ⟨rfl, w'.heap.size, cap2, cells, q1, q2, hcsz, hcap2, hcm2, Nat.le_of_eq HZ0.out.symm, q3⟩
end Go.Proofs.YteiifligdfnifaaDoor
