/-
  What wire.Sum and althingref01.Sum do: both come to the checksum 'sumOf'.
-/
import Derived.Test.YtimickmlmlihpaaDoorProg
import Derived.Test.YtimickmlmlihpaaDoorSumP
namespace Go.Proofs.YtimickmlmlihpaaDoor
open Go.RowKit

set_option maxHeartbeats 400000 in
theorem wire_sum (a : Option Addr) (len cap : Nat) (bs : List UInt8) (w : World) (hl : bs.length = len) (hm : len ≤ 140737488355328) (hc : RowAt w a (bs.map byt)) :
    Calls Tryd.prog 35 #[.slice a len cap] w fun e w' => e = .returned (.int .i64 (sumOf bs : Nat)) ∧ w = w' := by
  go_enter Tryd.func35, Tryd.ntmps35
  go_wp2_with fail
  go_loop [3, 8] (fun s i => ∃ k : Nat, i = .int .i64 k ∧ k ≤ len ∧ s = .int .u32 (crc (bs.take k) : Nat)) (fun _ i => len - (intOf i).toNat)
  case atStart => exact ⟨0, rfl, Nat.zero_le _, rfl⟩
  case round =>
    obtain ⟨k, rfl, hk, rfl⟩ := hrel
    by_cases hlt : k < len
    · have hlt' : k < bs.length := by omega
      obtain ⟨b, o, rfl, hcell⟩ := hc.at k (by simpa using hlt')
      have hts := hid (crc_take_succ bs k hlt')
      simp only [List.getElem_map] at hcell
      generalize bs[k] = x at hcell hts
      have hS := crc_lt (bs.take k)
      generalize crc (bs.take k) = S at hS hts
      have hx := x.toNat_lt
      have hX := hid (u32_xor_nat S x.toNat hS (by omega))
      have hT := xor_byte_lt hS x
      clear hc hl hlt'
      go_wp2_with fail
      rw [hX.out]
      clear hX hcell
      go_loop [3, 16] (fun s i => ∃ j : Nat, i = .int .i64 j ∧ j ≤ 8 ∧ s = .int .u32 (bitSteps j (S ^^^ x.toNat) : Nat)) (fun _ i => 8 - (intOf i).toNat)
      case atStart => exact ⟨0, rfl, by omega, rfl⟩
      case round =>
        obtain ⟨j, rfl, hj, rfl⟩ := hrel
        have hB := bitSteps_lt hT j
        by_cases hj8 : j < 8
        · have hsucc : Hid (bitSteps (j + 1) (S ^^^ x.toNat) = bitStep (bitSteps j (S ^^^ x.toNat))) := rfl
          generalize bitSteps j (S ^^^ x.toNat) = U at hB hsucc
          have hand := u32_and_nat U 1 hB (by omega)
          rw [nat_mask1] at hand
          have hxor := hid (u32_xor_nat (U / 2) 3988292384 (by omega) (by omega))
          by_cases hodd : U % 2 = 1
          · have ho : (bits BinOp.and IntKind.u32 (U : Int) 1 == 1) = true := by rw [show ((1 : Int)) = ((1 : Nat) : Int) from rfl, hand, hodd]; rfl
            have hn : Hid (bitStep U = (U / 2) ^^^ 3988292384) := by unfold bitStep; exact if_pos hodd
            clear hand hodd
            go_wp2
            go_round
            case rel => exact ⟨j + 1, by go_num, by omega, by rw [hsucc.out, hn.out, ← hxor.out]; rfl⟩
            case measure => simp [intOf]; omega
          · have ho : (bits BinOp.and IntKind.u32 (U : Int) 1 == 1) = false := by
              rw [show ((1 : Int)) = ((1 : Nat) : Int) from rfl, hand, show U % 2 = 0 from by omega]; rfl
            have hn : Hid (bitStep U = U / 2) := by unfold bitStep; exact if_neg hodd
            clear hand hodd
            go_wp2
            go_round
            case rel => exact ⟨j + 1, by go_num, by omega, by rw [hsucc.out, hn.out]; rfl⟩
            case measure => simp [intOf]; omega
        · obtain rfl : j = 8 := by omega
          go_wp2
          go_round
          case rel => exact ⟨k + 1, by go_num, by omega, by rw [hts.out]; rfl⟩
          case measure => simp [intOf]; omega
    · have hk2 : bs.take k = bs := List.take_of_length_le (by omega)
      rw [hk2]
      have hS := crc_lt bs
      have hs : Hid (sumOf bs = 4294967295 - crc bs) := rfl
      generalize crc bs = S at hS hs
      have hnot := not_u32 S hS
      have hT : 4294967295 - S ≤ 4294967295 := by omega
      generalize 4294967295 - S = T at hnot hs hT
      go_wp2
      go_ret
      rw [hs.out]
      exact ⟨ret_w64 rfl (by omega) (by omega), rfl⟩

end Go.Proofs.YtimickmlmlihpaaDoor
