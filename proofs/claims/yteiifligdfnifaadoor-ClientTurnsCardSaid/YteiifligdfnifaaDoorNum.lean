/-
  wire.right, wire.put, althingref01.Bad, Put: how a number becomes bytes.
-/
import Derived.Test.YteiifligdfnifaaDoorJoin
import Derived.Test.YteiifligdfnifaaDoorNumP
namespace Go.Proofs.YteiifligdfnifaaDoor
set_option maxRecDepth 20000
open Go.RowKit

theorem wire_right (n : Int) (w : World) : Calls Tryd.prog 66 #[.int .i64 n] w fun e w' => e = .returned (.bool (isNum n)) ∧ w = w' := by
  by_cases h : 0 ≤ n
  · go_enter Tryd.func66, Tryd.ntmps66
    go_wp2
    go_ret
    exact ⟨ret_v (by simp [isNum, h]), rfl⟩
  · go_enter Tryd.func66, Tryd.ntmps66
    go_wp2
    go_ret
    exact ⟨ret_v (by simp [isNum]; omega), rfl⟩

set_option maxHeartbeats 400000 in
theorem wire_put (v : Value) (xs : List UInt8) (n base : Nat) (w : World) (hown : w.ownsRow base 5 1 v xs.length (xs.map byt)) (hbase : base ≤ w.heap.size) (hn : n < 2 ^ 63) (hm : xs.length + (enc n).length ≤ 140737488355328) :
    Calls Tryd.prog 67 #[v, .int .i64 n] w fun e w' => ∃ v', e = .returned v' ∧ w'.ownsRow base 5 1 v' (xs ++ enc n).length ((xs ++ enc n).map byt) ∧ Below base w w' := by
  have HN := hid hn
  clear hn
  go_enter Tryd.func67, Tryd.ntmps67
  go_wp2_with fail
  go_loopw [0, 1] (fun v i wr => ∃ (k : Nat) (ys : List UInt8), i = .int .i64 k ∧ Hid (k < 2 ^ 63) ∧ wr.ownsRow base 5 1 v ys.length (ys.map byt) ∧ Below base w wr ∧ Hid (ys ++ enc k = xs ++ enc n)) (fun _ i _ => (intOf i).toNat)
  case atStart => exact ⟨n, xs, rfl, HN, hown, Below.refl _ _, rfl⟩
  case round =>
    clear hown
    obtain ⟨k, ys, rfl, hk, hown, hb, hy⟩ := hrel
    have HO := hid hown
    have HB := hid hb
    have hbs := Nat.le_trans hbase hb.size
    have hlen : ys.length + (enc k).length ≤ 140737488355328 := by rw [← List.length_append, hy.out, List.length_append]; exact hm
    clear hown hb hm hbase
    by_cases hlt : k < 128
    · rw [enc_small hlt] at hlen
      rw [enc_small hlt] at hy
      simp only [List.length_singleton] at hlen
      have HZ : Hid ((k : Int) = ((UInt8.ofNat k).toNat : Int)) := by show _ = _; rw [ofNat_toNat (by omega)]
      go_wp2_with (at_builtin; refine wpList_app_byte rfl (.tmp 15) (.tmp 18) 37 rfl base 5 Tryd.underlying37 info5 _ ys _ _ rfl HO.out rfl HZ hlen hbs ?_; intro v' w1 ho1 hb1; refine Stop.mk ?_)
      have HO1 := hid ho1
      have HB1 := hid (HB.out.trans hb1)
      clear ho1 hb1 HB HO
      refine Stop.go ?_
      go_wp2
      go_ret
      exact ⟨v', rfl, by rw [← hy.out]; exact HO1.out, HB1.out⟩
    · rw [enc_big hlt, List.length_cons] at hlen
      rw [enc_big hlt] at hy
      have hor := or_byte k
      have HZ : Hid (((128 + k % 128 : Nat) : Int) = ((UInt8.ofNat (128 + k % 128)).toNat : Int)) := by show _ = _; rw [ofNat_toNat (by omega)]
      go_wp2_with (at_builtin; refine wpList_app_byte rfl (.tmp 9) (.tmp 13) 37 rfl base 5 Tryd.underlying37 info5 _ ys _ _ rfl HO.out rfl HZ (by omega) hbs ?_; intro v' w1 ho1 hb1; refine Stop.mk ?_)
      have HO1 := hid ho1
      have HB1 := hid (HB.out.trans hb1)
      clear ho1 hb1 HB HO hor hbs
      refine Stop.go ?_
      go_wp2
      go_roundw
      case rel => exact ⟨k / 128, ys ++ [UInt8.ofNat (128 + k % 128)], by go_num, by have := hk.out; show _ < _; omega, HO1.out, HB1.out, by rw [← hy.out]; show _ = _; simp⟩
      case measure => simp [intOf]; omega

end Go.Proofs.YteiifligdfnifaaDoor
