/-
  althinglaw01.awake returns true.
-/
import Derived.Test.YtimickmlmlihpaaDoorNumbers
import Derived.Test.YtimickmlmlihpaaDoorSumW
import Derived.Lib.SlBytesConst
namespace Go.Proofs.YtimickmlmlihpaaDoor
open Go.RowKit
set_option maxRecDepth 20000

theorem sum_check : sumOf [49, 50, 51, 52, 53, 54, 55, 56, 57] = 3421780262 := by decide +kernel
theorem enc_check : numbersBytes [0, 127, 128] = [0, 127, 128, 1] := by
  have h0 : enc 0 = [0] := by rw [enc_small (by omega)]; rfl
  have h1 : enc 127 = [127] := by rw [enc_small (by omega)]; rfl
  have h2 : enc 128 = [128, 1] := by rw [enc_big (by omega), enc_small (by omega)]; rfl
  have h3 : numbersBytes [0, 127, 128] = enc 0 ++ (enc 127 ++ (enc 128 ++ [])) := rfl
  rw [h3, h0, h1, h2]; rfl

theorem bytes_new (w : World) (l : List UInt8) (e : TypeId) (fr : Nat × Nat) {cs : Array Value} (h : cs.toList = l.map byt) (hm : l.length ≤ maxLen) : IsBytes (w.alloc (.cells cs e fr)) (.slice (some ⟨w.heap.size, 0, none⟩) l.length l.length) l :=
  ⟨_, _, rfl, by rw [← h]; exact RowAt.new w cs e fr, (by simp), Nat.le_refl _, hm⟩

set_option maxHeartbeats 800000 in
theorem awake01 (w : World) : Calls Tryd.prog 24 #[] w fun e w' => e = .returned (.bool true) ∧ Below w.heap.size w w' := by
  go_enter Tryd.func24, Tryd.ntmps24
  go_wp2_with fail
  refine (wire_numbers _ 3 [0, 127, 128] _ (RowAt.new w #[.int .i64 0, .int .i64 127, .int .i64 128] _ _) (by decide)).mono ?_
  rintro e w1 ⟨v, rfl, ho, hb⟩
  rw [enc_check] at ho
  have he := run_bytes (P := Tryd.prog) Tryd.underlying23 Tryd.underlying5 Tryd.underlying9 (owns_bytes ho)
  have HB := hid (below_step ((Below.refl w.heap.size w).alloc (Nat.le_refl _) (.cells #[.int .i64 0, .int .i64 127, .int .i64 128] 3)) (by simp) hb)
  obtain ⟨a, c, rfl, _⟩ := owns_bytes ho
  rw [show numbersErr [0, 127, 128] = 0 from rfl]
  have hbs := hb.size
  clear ho hb
  simp only [List.length_cons, List.length_nil, Nat.reduceAdd] at he
  have kc := fun (w : World) (C : Array Value) (n c : Nat) => Lib.run_convert_bytes_const (P := Tryd.prog) w 23 5 C n c Tryd.underlying23 Tryd.underlying5
  go_wp2_with fail
  refine (wire_sum _ 9 9 [49, 50, 51, 52, 53, 54, 55, 56, 57] _ rfl (by omega) (RowAt.new w1 #[.int .u8 49, .int .u8 50, .int .u8 51, .int .u8 52, .int .u8 53, .int .u8 54, .int .u8 55, .int .u8 56, .int .u8 57] _ _)).mono ?_
  rintro e w2 ⟨rfl, rfl⟩
  rw [sum_check]
  have HB2 := hid (HB.out.alloc (o := .cells #[.int .u8 49, .int .u8 50, .int .u8 51, .int .u8 52, .int .u8 53, .int .u8 54, .int .u8 55, .int .u8 56, .int .u8 57] 5 (9, 10)) (by simp at hbs; omega))
  clear he HB kc
  go_wp2
  go_ret
  exact ⟨rfl, HB2.out⟩
end Go.Proofs.YtimickmlmlihpaaDoor
