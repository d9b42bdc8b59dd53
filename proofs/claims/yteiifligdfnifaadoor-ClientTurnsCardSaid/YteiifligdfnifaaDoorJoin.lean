/-
  althingref01.Join, Copy, Same: bytes one behind the other in new memory; whether bytes are equal.
-/
import Derived.Test.YteiifligdfnifaaDoorProg
import Derived.Test.YteiifligdfnifaaDoorBase
namespace Go.Proofs.YteiifligdfnifaaDoor
open Go.RowKit

/-- Slices of bytes that lie in a row. -/
def AllBytes (w : World) (vs : List Value) (ls : List (List UInt8)) : Prop := vs.length = ls.length ∧ ∀ (j : Nat) (v : Value) (l : List UInt8), vs[j]? = some v → ls[j]? = some l → IsBytes w v l
theorem AllBytes.below {w w' : World} {vs : List Value} {ls : List (List UInt8)} (h : AllBytes w vs ls) (hb : Below w.heap.size w w') : AllBytes w' vs ls :=
  ⟨h.1, fun j v l hv hl => (h.2 j v l hv hl).below hb⟩

theorem info5 : (Tryd.prog.info? 5).map (fun i => (i.zero, i.size, i.bytes)) = some (some (.int .u8 0), 1, 1) := by kernel_rfl

theorem flatten_take (ls : List (List UInt8)) (k : Nat) (h : k < ls.length) : (ls.take (k + 1)).flatten = (ls.take k).flatten ++ ls[k] := by
  rw [List.take_succ_eq_append_getElem h, List.flatten_append]; simp
theorem flatten_take_le (ls : List (List UInt8)) (k : Nat) : (ls.take k).flatten.length ≤ ls.flatten.length := by
  conv => rhs; rw [← List.take_append_drop k ls, List.flatten_append, List.length_append]
  exact Nat.le_add_right _ _

set_option maxHeartbeats 400000 in
theorem ref_join (a : Option Addr) (cap : Nat) (vs : List Value) (ls : List (List UInt8)) (w : World) (hr : RowAt w a vs) (hall : AllBytes w vs ls) (hm : ls.flatten.length ≤ 140737488355328) (hn : vs.length ≤ 140737488355328) :
    Calls Tryd.prog 37 #[.slice a vs.length cap] w fun e w' => ∃ v, e = .returned v ∧ w'.ownsRow w.heap.size 5 1 v ls.flatten.length (ls.flatten.map byt) ∧ Below w.heap.size w w' := by
  go_enter Tryd.func37, Tryd.ntmps37
  go_wp2_with fail
  go_loopw [3, 4] (fun v i wr => ∃ k : Nat, i = .int .i64 k ∧ k ≤ vs.length ∧ wr.ownsRow w.heap.size 5 1 v (ls.take k).flatten.length ((ls.take k).flatten.map byt) ∧ Below w.heap.size w wr) (fun _ i _ => vs.length - (intOf i).toNat)
  case atStart =>
    exact ⟨0, rfl, Nat.zero_le _, World.ownsRow_made w #[] 0 (Nat.le_refl _) (Nat.zero_le _) rfl, (Below.refl _ _).alloc (Nat.le_refl _) _⟩
  case round =>
    obtain ⟨k, rfl, hk, hown, hb⟩ := hrel
    by_cases hlt : k < vs.length
    · have hlt2 : k < ls.length := by rw [← hall.1]; exact hlt
      obtain ⟨b, o, rfl, hcell⟩ := hr.at k hlt
      obtain ⟨a1, c1, hv1, hr1, hn1, _, _⟩ := hall.2 k vs[k] ls[k] (by simp [hlt]) (by simp [hlt2])
      rw [hv1] at hcell
      have hcw := (hb.cell (p := ⟨b, o + k, none⟩) (lt_of_cell hcell)).trans hcell
      have hft := hid (flatten_take ls k hlt2)
      have hle := flatten_take_le ls (k + 1)
      rw [hft.out, List.length_append] at hle
      have hr1w := hid (hr1.below hb)
      have hn1' := hid hn1
      have HB := hid hb
      have hbs := hb.size
      have HO := hid hown
      clear hr hall hcell hv1 hr1 hn1 hb hown
      go_wp2_with (at_builtin; refine wpList_app rfl (.tmp 12) (.tmp 16) 37 rfl w.heap.size 5 Tryd.underlying37 info5 rfl (by omega) _ _ _ rfl HO.out a1 _ c1 _ rfl (by simp) hr1w.out (oneCell_bytes _) (by unfold maxLen; omega) (by omega) hbs hn1'.out ?_; intro v' w1 hown1 hg1 _)
      have hb1 := HB.out.grown hg1 hbs (fun k hk => (HO.out.lt k hk).1)
      have hown2 : w1.ownsRow w.heap.size 5 1 v' (ls.take (k + 1)).flatten.length ((ls.take (k + 1)).flatten.map byt) := by
        rw [hft.out, List.length_append, List.map_append]; exact hown1
      clear HB HO hbs hg1 hr1w hft hown1 hn1' hcw
      go_wp2
      go_roundw
      case rel => exact ⟨k + 1, by go_num, by omega, hown2, hb1⟩
      case measure => simp [intOf]; omega
    · have hk2 : ls.take k = ls := List.take_of_length_le (by have := hall.1; omega)
      rw [hk2] at hown
      have HO := hid hown
      have HB := hid hb
      clear hown hb hall hr
      go_wp2
      go_ret
      exact ⟨u3, rfl, HO.out, HB.out⟩

theorem allBytes_nil (w : World) : AllBytes w [] [] := ⟨rfl, by simp⟩
theorem allBytes_cons {w : World} {v : Value} {l : List UInt8} {vs : List Value} {ls : List (List UInt8)} (h : IsBytes w v l) (k : AllBytes w vs ls) : AllBytes w (v :: vs) (l :: ls) := by
  refine ⟨by simp [k.1], fun j x y hx hy => ?_⟩
  cases j with
  | zero => simp at hx hy; subst hx; subst hy; exact h
  | succ j => exact k.2 j x y (by simpa using hx) (by simpa using hy)
theorem allBytes_one {w : World} {v : Value} {l : List UInt8} (h : IsBytes w v l) : AllBytes w [v] [l] := by
  refine ⟨rfl, fun j x y hx hy => ?_⟩
  cases j with
  | zero => simp at hx hy; subst hx; subst hy; exact h
  | succ j => simp at hx

set_option maxHeartbeats 400000 in
theorem ref_copy (v : Value) (l : List UInt8) (w : World) (hv : IsBytes w v l) (hm : l.length ≤ 140737488355328) :
    Calls Tryd.prog 17 #[v] w fun e w' => ∃ v, e = .returned v ∧ w'.ownsRow w.heap.size 5 1 v l.length (l.map byt) ∧ Below w.heap.size w w' := by
  have HV := hid hv
  obtain ⟨a, c, rfl, _⟩ := hv
  go_enter Tryd.func17, Tryd.ntmps17
  go_wp2_with fail
  have hB : Below w.heap.size w (w.alloc (.cells #[.slice a l.length c] 37)) := (Below.refl _ _).alloc (Nat.le_refl _) _
  refine (ref_join _ _ [.slice a l.length c] [l] _ (RowAt.new w #[.slice a l.length c] _ _) (allBytes_one (HV.out.below hB)) (by simpa using hm) (by simp)).mono ?_
  rintro e w1 ⟨v1, rfl, ho, hb⟩
  have HO := hid (owns_base (base' := w.heap.size) ho (by simp))
  have HB := hid (below_step hB (by simp) hb)
  clear ho hb hB
  simp only [List.flatten_cons, List.flatten_nil, List.append_nil] at HO
  go_wp2_with fail
  go_ret
  exact ⟨v1, rfl, HO.out, HB.out⟩

theorem run_bytes {P : Program} {w : World} {src dst e : TypeId} {v : Value} {l : List UInt8} (hs : P.underlying src = some (.slice e)) (he : P.underlying e = some (.int .u8)) (hd : P.underlying dst = some .string)
    (h : IsBytes w v l) : (convert src dst v).run P w = .ok (.string ⟨l.toArray⟩) w := by
  obtain ⟨a, c, rfl, hr, hc0, _, _⟩ := h
  rw [run_convert_bytes_string w src dst e a _ c hs he hd]
  cases a with
  | none =>
    have := hr.none
    have hl : l = [] := by simpa using this
    subst hl
    simp [Conv.bytesToString]; rfl
  | some ad =>
    have hm : l.map byt = (l.map fun x => (x.toNat : Int)).map (Value.int .u8) := by simp [Function.comp_def]
    have hl := run_loadCells_list (P := P) w ad (l.map byt) hr.add
    rw [hm] at hl
    simp only [List.length_map] at hl
    rw [run_bytesToString w ad _ c (l.map fun x => (x.toNat : Int)) hl, foldl_push_bytes]
    simp [ByteArray.empty, ByteArray.emptyWithCapacity, Function.comp_def]
    rfl

set_option maxHeartbeats 400000 in
theorem ref_same (v1 v2 : Value) (l1 l2 : List UInt8) (w : World) (h1 : IsBytes w v1 l1) (h2 : IsBytes w v2 l2) :
    Calls Tryd.prog 14 #[v1, v2] w fun e w' => e = .returned (.bool (l1 == l2)) ∧ w = w' := by
  have e1 := run_bytes (P := Tryd.prog) Tryd.underlying37 Tryd.underlying5 Tryd.underlying9 h1
  have e2 := run_bytes (P := Tryd.prog) Tryd.underlying37 Tryd.underlying5 Tryd.underlying9 h2
  clear h1 h2
  go_enter Tryd.func14, Tryd.ntmps14
  go_wp2
  go_ret
  exact ⟨rfl, rfl⟩
end Go.Proofs.YteiifligdfnifaaDoor
