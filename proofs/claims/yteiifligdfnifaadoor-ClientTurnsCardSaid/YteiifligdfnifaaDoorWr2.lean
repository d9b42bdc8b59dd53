/-
  wire.Writer's buffer (bytes.Buffer, only written): grow.
-/
import Derived.Test.YteiifligdfnifaaDoorWr1
namespace Go.Proofs.YteiifligdfnifaaDoor
open Go.RowKit
set_option maxRecDepth 100000
set_option linter.unusedVariables false

set_option maxHeartbeats 6400000 in
theorem grow_row (b k l cap n : Nat) (lr : Int) (cur : Array Value) (bad : Bool) (w : World) (ho : ObjAt w b 130 (wcells (.slice (some ⟨k, 0, none⟩) l cap) lr bad)) (hg : w.heap[k]? = some (.cells cur 5 (0, 0)))
    (h0 : 1 ≤ l) (hlc : l ≤ cap) (hcm : cap ≤ maxLen) (hcs : cur.size = cap) (hkb : k ≠ b) (h1 : ∀ v ∈ cur.toList.take l, v.oneCell' = true) (hn : 1 ≤ n) (hroom : cap - l < n) (hlim : l + n ≤ 140737488355328) :
    Calls Tryd.prog 69 #[.pointer (some ⟨b, 0, none⟩), .int .i64 n] w fun e w' => e = .returned (.int .i64 l) ∧ ∃ N cap2 cells, ObjAt w' b 130 (wcells (.slice (some ⟨N, 0, none⟩) (l + n) cap2) lr bad) ∧ w'.heap[N]? = some (.cells cells 5 (0, 0)) ∧
      cells.size = cap2 ∧ cells.toList.take l = cur.toList.take l ∧ l + n ≤ cap2 ∧ cap2 ≤ maxLen ∧ w.heap.size ≤ N ∧ Kept w.heap.size b w w' := by
  have hl : l ≤ maxLen := Nat.le_trans hlc hcm
  have hnil : ∀ W, (binOp .eql 37 (.slice (some ⟨k, 0, none⟩) l cap) (.slice none 0 0)).run Tryd.prog W = .ok (.bool false) W := fun W => Lib.run_eql_slice_some_nil W _ _ _ Tryd.underlying37
  go_enter Tryd.func69, Tryd.ntmps69
  go_wp2_with (go_at_call 71; refine (buf_len b _ l cap _ (ho.cell 0 _ rfl) (ho.cell 1 _ rfl) hl).mono ?_)
  rintro e W0 ⟨rfl, q, hW0⟩
  have ho0 : ObjAt W0 b 130 (wcells (.slice (some ⟨k, 0, none⟩) l cap) lr bad) := by rw [hW0]; exact ho
  have hg0 : W0.heap[k]? = some (.cells cur 5 (0, 0)) := by rw [hW0]; exact hg
  have hb0 : Below w.heap.size w W0 := by rw [hW0]; exact below_drewN' q
  have hz0 : W0.heap.size = w.heap.size := by rw [hW0]; rfl
  have HZ0 := hid hz0
  have HB0 := hid hb0
  have HO0 := hid ho0
  have c0 := ho0.cell 0 _ rfl
  have c1 := ho0.cell 1 _ rfl
  have f0 := ho0.frozen 0
  have f1 := ho0.frozen 1
  have hbW := ho0.lt
  clear hW0 hb0 hz0 ho0 ho hg
  have hcm' := hcm
  unfold maxLen at hcm'
  go_wp2_with (go_at_call 68; refine (tryGrow_none b _ l cap n _ c0 hlc hcm hroom).mono ?_; rintro e w' ⟨rfl, rfl⟩)
  have hc2 : cap ≤ 140737488355328 := by omega
  have hwn : IntKind.i64.wrap (n : Int) = n := by rw [IntKind.wrap_i64]; omega
  go_region_with (
      go_at_call 73
      refine (Tryd.bytes_growSlice_row k l cap n cur _ ?_ hcs hlc hn hlim hc2 h1).mono ?_
      exact hg0
      rintro e w2 ⟨cap2, cells, rfl, hN, hcsz, htk, hcap2, hcm2, hbel⟩
      have ho2 := hid (HO0.out.below (undrew hbel))
      have d0 := ho2.out.cell 0 _ rfl
      have d1 := ho2.out.cell 1 _ rfl
      have e0 := ho2.out.frozen 0
      have e1 := ho2.out.frozen 1)
  all_goals
    go_wp2
    go_ret
    have hNb : w'.heap.size ≠ b := by omega
    obtain ⟨q1, q2, q3⟩ := grow_done (m := l + n) (cap2 := cap2) (x := .slice (some ⟨w'.heap.size, 0, none⟩) l cap2) HB0.out (undrew hbel) ho2.out hN hNb
    exact ⟨rfl, w'.heap.size, cap2, cells, q1, q2, hcsz, htk, hcap2, hcm2, Nat.le_of_eq HZ0.out.symm, q3⟩
end Go.Proofs.YteiifligdfnifaaDoor
