/-
  A frame in which one byte of its payload, or of its sum, is another one is never taken: plain functions alone.
-/
import Derived.Test.YtimickmlmlihpaaFrameP
namespace Go.Proofs.Ytimickmlmlihpaa
open Go.RowKit

theorem poly_bit (a : Nat) (h : a < 2147483648) : 2147483648 ≤ a ^^^ 3988292384 := by
  have h1 : (a ^^^ 3988292384).testBit 31 = true := by
    rw [Nat.testBit_xor]
    have h2 : a.testBit 31 = false := Nat.testBit_lt_two_pow h
    have h3 : (3988292384 : Nat).testBit 31 = true := by decide
    rw [h2, h3]; rfl
  exact Nat.ge_two_pow_of_testBit h1
theorem bitStep_inj {s t : Nat} (hs : s < 4294967296) (ht : t < 4294967296) (h : bitStep s = bitStep t) : s = t := by
  unfold bitStep at h
  have ps := poly_bit (s / 2) (by omega)
  have pt := poly_bit (t / 2) (by omega)
  split at h
  · split at h
    · have : s / 2 = t / 2 := by
        have h2 : (s / 2 ^^^ 3988292384) ^^^ 3988292384 = (t / 2 ^^^ 3988292384) ^^^ 3988292384 := by rw [h]
        simpa [Nat.xor_assoc] using h2
      omega
    · omega
  · split at h <;> omega
theorem bitSteps_inj {s t : Nat} (hs : s < 4294967296) (ht : t < 4294967296) : ∀ n, bitSteps n s = bitSteps n t → s = t
  | 0, h => h
  | n + 1, h => bitSteps_inj hs ht n (bitStep_inj (bitSteps_lt hs n) (bitSteps_lt ht n) h)
theorem crcStep_inj {s t : Nat} (hs : s < 4294967296) (ht : t < 4294967296) {x : UInt8} (h : crcStep s x = crcStep t x) : s = t := by
  have := bitSteps_inj (xor_byte_lt hs x) (xor_byte_lt ht x) 8 h
  have h2 : (s ^^^ x.toNat) ^^^ x.toNat = (t ^^^ x.toNat) ^^^ x.toNat := by rw [this]
  simpa [Nat.xor_assoc] using h2
theorem crcStep_ne {s : Nat} (hs : s < 4294967296) {x y : UInt8} (h : x ≠ y) : crcStep s x ≠ crcStep s y := by
  intro e
  have := bitSteps_inj (xor_byte_lt hs x) (xor_byte_lt hs y) 8 e
  have h2 : s ^^^ (s ^^^ x.toNat) = s ^^^ (s ^^^ y.toNat) := by rw [this]
  rw [← Nat.xor_assoc, ← Nat.xor_assoc, Nat.xor_self, Nat.zero_xor, Nat.zero_xor] at h2
  exact h (UInt8.toNat_inj.1 h2)
theorem crcFold_ne : ∀ (l : List UInt8) (s t : Nat), s < 4294967296 → t < 4294967296 → s ≠ t → l.foldl crcStep s ≠ l.foldl crcStep t
  | [], _, _, _, _, h => h
  | x :: l, _, _, hs, ht, h => crcFold_ne l _ _ (crcStep_lt hs x) (crcStep_lt ht x) (fun e => h (crcStep_inj hs ht e))
theorem crc_set (l : List UInt8) (j : Nat) (y : UInt8) (hj : j < l.length) (hy : y ≠ l[j]) : crc (l.set j y) ≠ crc l := by
  have e1 : l.set j y = l.take j ++ y :: l.drop (j + 1) := by rw [List.set_eq_take_append_cons_drop, if_pos hj]
  have e2 : l = l.take j ++ l[j] :: l.drop (j + 1) := by rw [← List.drop_eq_getElem_cons hj, List.take_append_drop]
  intro h
  rw [e1] at h
  conv at h => rhs; rw [e2]
  unfold crc at h
  rw [List.foldl_append, List.foldl_append] at h
  have hlt := crcFold_lt (l.take j) 4294967295 (by omega)
  exact crcFold_ne _ _ _ (crcStep_lt hlt _) (crcStep_lt hlt _) (crcStep_ne hlt hy) h
theorem sumOf_ne {a b : List UInt8} (h : crc a ≠ crc b) : sumOf a ≠ sumOf b := by
  have := crc_lt a
  have := crc_lt b
  unfold sumOf; omega

theorem value4_ne {a b : List UInt8} (ha : 4 ≤ a.length) (hb : 4 ≤ b.length) (h : a.take 4 ≠ b.take 4) : value4 a ≠ value4 b := by
  intro e
  exact h (by rw [← four_value4 a ha, ← four_value4 b hb, e])

theorem set_drop_ge (l : List UInt8) (i k : Nat) (y : UInt8) (h : k ≤ i) : (l.set i y).drop k = (l.drop k).set (i - k) y := List.drop_set_of_le h
  where List.drop_set_of_le {l : List UInt8} {i k : Nat} {y : UInt8} (h : k ≤ i) : (l.set i y).drop k = (l.drop k).set (i - k) y := by
          rw [List.drop_set, if_neg (by omega)]

theorem bits_bad (p : List UInt8) (hp : p.length ≤ 65536) (i : Nat) (y : UInt8) (h4 : 4 ≤ i) (hi : i < (frameOf p).length) (hy : y ≠ (frameOf p)[i]) :
    unframe ((frameOf p).set i y) = ([], 15) := by
  have hlen := frameOf_length p
  have hfl : ((frameOf p).set i y).length = 8 + p.length := by rw [List.length_set, hlen]
  have hv : value4 ((frameOf p).set i y) = p.length := by
    have : value4 ((frameOf p).set i y) = value4 (frameOf p) := by
      rw [← value4_take ((frameOf p).set i y) 4 (Nat.le_refl _), ← value4_take (frameOf p) 4 (Nat.le_refl _), List.take_set_of_le h4]
    rw [this, frameOf, List.append_assoc, value4_four (by omega)]
  unfold unframe
  rw [hfl, if_neg (by omega), hv, if_neg (by omega), if_neg (by omega)]
  refine if_neg ?_
  have hd8 : (frameOf p).drop 8 = p := by
    unfold frameOf
    rw [List.drop_append_of_le_length (by simp [four_length]), List.drop_of_length_le (by simp [four_length])]; rfl
  have hd4 : (frameOf p).drop 4 = four (sumOf (four p.length ++ p)) ++ p := by
    unfold frameOf
    rw [List.append_assoc, List.drop_append_of_le_length (by simp [four_length]), List.drop_of_length_le (by simp [four_length])]; rfl
  by_cases h8 : i < 8
  · have e1 : ((frameOf p).set i y).drop 8 = p := by rw [List.drop_set_of_lt h8, hd8]
    rw [e1, List.take_length]
    have e2 : ((frameOf p).set i y).drop 4 = (four (sumOf (four p.length ++ p)) ++ p).set (i - 4) y := by rw [set_drop_ge _ _ _ _ h4, hd4]
    rw [e2]
    have h5 : value4 (four (sumOf (four p.length ++ p)) ++ p) = sumOf (four p.length ++ p) := value4_four (sumOf_lt _) p
    intro h
    have h6 : value4 ((four (sumOf (four p.length ++ p)) ++ p).set (i - 4) y) = value4 (four (sumOf (four p.length ++ p)) ++ p) := by rw [← h, h5]
    refine value4_ne (by simp [four_length]) (by simp [four_length]) ?_ h6
    intro h7
    have h8' : (((four (sumOf (four p.length ++ p)) ++ p).set (i - 4) y).take 4)[i - 4]? = ((four (sumOf (four p.length ++ p)) ++ p).take 4)[i - 4]? := by rw [h7]
    rw [List.getElem?_take, List.getElem?_take, if_pos (by omega), if_pos (by omega), List.getElem?_set_self (by simp [four_length]; omega)] at h8'
    have h9 : (four (sumOf (four p.length ++ p)) ++ p)[i - 4]? = some (frameOf p)[i] := by
      rw [← hd4, List.getElem?_drop, show 4 + (i - 4) = i by omega, List.getElem?_eq_getElem hi]
    rw [h9] at h8'
    exact hy (Option.some.inj h8')
  · have e1 : ((frameOf p).set i y).drop 8 = p.set (i - 8) y := by rw [set_drop_ge _ _ _ _ (by omega), hd8]
    have e2 : value4 (((frameOf p).set i y).drop 4) = sumOf (four p.length ++ p) := by
      rw [set_drop_ge _ _ _ _ h4, hd4, ← value4_take _ 4 (Nat.le_refl _), List.take_set_of_le (by omega), value4_take _ 4 (Nat.le_refl _), value4_four (sumOf_lt _)]
    rw [e1, e2, List.take_of_length_le (by simp)]
    refine sumOf_ne ?_
    have hj : i - 8 < p.length := by omega
    have hpj : p[i - 8] = (frameOf p)[i] := by
      have : p[i - 8]? = some (frameOf p)[i] := by
        conv => lhs; rw [← hd8]
        rw [List.getElem?_drop, show 8 + (i - 8) = i by omega, List.getElem?_eq_getElem hi]
      rw [List.getElem?_eq_getElem hj] at this
      exact Option.some.inj this
    have e3 : four p.length ++ p.set (i - 8) y = (four p.length ++ p).set (4 + (i - 8)) y := by
      rw [List.set_append_right _ _ (by simp [four_length])]; simp [four_length]
    rw [e3]
    refine crc_set _ _ _ (by simp [four_length]; omega) ?_
    rw [List.getElem_append_right (by simp [four_length])]
    simp only [four_length, Nat.add_sub_cancel_left]
    rw [hpj]; exact hy

theorem flip_bit (x : UInt8) (t : Nat) (ht : t ≤ 7) : ∃ y : UInt8, y ≠ x ∧ bits .xor .u8 (x.toNat : Int) (2 ^ t % 256) = (y.toNat : Int) := by
  have hx := x.toNat_lt
  have hp : (2 : Nat) ^ t < 256 := by
    have : (2 : Nat) ^ t ≤ 2 ^ 7 := Nat.pow_le_pow_right (by omega) ht
    omega
  have hp0 : 0 < (2 : Nat) ^ t := Nat.two_pow_pos t
  have e : ((2 : Int) ^ t % 256) = ((2 ^ t : Nat) : Int) := by
    have : ((2 : Int) ^ t) = ((2 ^ t : Nat) : Int) := by simp
    rw [this]; omega
  have hlt : x.toNat ^^^ 2 ^ t < 256 := Nat.xor_lt_two_pow (n := 8) (by omega) (by omega)
  refine ⟨UInt8.ofNat (x.toNat ^^^ 2 ^ t), ?_, ?_⟩
  · intro h
    have h2 : x.toNat ^^^ 2 ^ t = x.toNat := by
      have := congrArg UInt8.toNat h
      rw [toNat_ofNat', Nat.mod_eq_of_lt hlt] at this
      exact this
    have h3 : x.toNat ^^^ (x.toNat ^^^ 2 ^ t) = x.toNat ^^^ x.toNat := by rw [h2]
    rw [← Nat.xor_assoc, Nat.xor_self, Nat.zero_xor] at h3
    omega
  · rw [e, u8_xor_nat _ _ (by omega) hp, toNat_ofNat', Nat.mod_eq_of_lt hlt]

theorem unframe_frame (p rest : List UInt8) (hp : p.length ≤ 65536) : unframe (frameOf p ++ rest) = (p, 0) := by
  have hv : value4 (frameOf p ++ rest) = p.length := by
    unfold frameOf
    rw [List.append_assoc, List.append_assoc]; exact value4_four (by omega) _
  have hd8 : (frameOf p ++ rest).drop 8 = p ++ rest := by
    unfold frameOf
    rw [List.append_assoc, List.drop_append_of_le_length (by simp [four_length]), List.drop_of_length_le (by simp [four_length])]; rfl
  have hd4 : value4 ((frameOf p ++ rest).drop 4) = sumOf (four p.length ++ p) := by
    unfold frameOf
    rw [List.append_assoc, List.append_assoc, List.drop_append_of_le_length (by simp [four_length]), List.drop_of_length_le (by simp [four_length]), List.nil_append]
    exact value4_four (sumOf_lt _) _
  have hl : (frameOf p ++ rest).length = 8 + p.length + rest.length := by rw [List.length_append, frameOf_length]
  unfold unframe
  rw [hv, hl, hd8, hd4, if_neg (by omega), if_neg (by omega), if_neg (by omega)]
  rw [List.take_append_of_le_length (Nat.le_refl _), List.take_length]
  exact if_pos rfl
theorem unframeAt_mid (a p b : List UInt8) (hp : p.length ≤ 65536) : unframeAt (a ++ frameOf p ++ b) a.length = (p, ((a.length + (frameOf p).length : Nat) : Int), 0) := by
  have hd : (a ++ frameOf p ++ b).drop a.length = frameOf p ++ b := by
    rw [List.append_assoc, List.drop_append_of_le_length (Nat.le_refl _), List.drop_length]; rfl
  unfold unframeAt
  rw [if_pos ⟨by omega, by simp; omega⟩, Int.toNat_natCast, hd, unframe_frame p b hp, if_pos rfl, frameOf_length]
  simp; omega
end Go.Proofs.Ytimickmlmlihpaa
