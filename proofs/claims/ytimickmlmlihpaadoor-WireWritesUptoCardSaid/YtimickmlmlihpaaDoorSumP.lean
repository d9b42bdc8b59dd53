/-
  The checksum as plain functions on lists of bytes.
-/
import Derived.Test.YtimickmlmlihpaaDoorBase
namespace Go.Proofs.YtimickmlmlihpaaDoor
open Go.RowKit

def bitStep (s : Nat) : Nat := if s % 2 = 1 then (s / 2) ^^^ 3988292384 else s / 2
def bitSteps : Nat → Nat → Nat
  | 0, s => s
  | n + 1, s => bitStep (bitSteps n s)
def crcStep (s : Nat) (x : UInt8) : Nat := bitSteps 8 (s ^^^ x.toNat)
def crc (l : List UInt8) : Nat := l.foldl crcStep 4294967295
def sumOf (l : List UInt8) : Nat := 4294967295 - crc l

theorem bitStep_lt {s : Nat} (h : s < 4294967296) : bitStep s < 4294967296 := by
  unfold bitStep
  split
  · exact Nat.xor_lt_two_pow (n := 32) (by omega) (by omega)
  · omega
theorem bitSteps_lt {s : Nat} (h : s < 4294967296) : ∀ n, bitSteps n s < 4294967296
  | 0 => h
  | n + 1 => bitStep_lt (bitSteps_lt h n)
theorem xor_byte_lt {s : Nat} (h : s < 4294967296) (x : UInt8) : s ^^^ x.toNat < 4294967296 :=
  Nat.xor_lt_two_pow (n := 32) h (by have := x.toNat_lt; omega)
theorem crcStep_lt {s : Nat} (h : s < 4294967296) (x : UInt8) : crcStep s x < 4294967296 := bitSteps_lt (xor_byte_lt h x) 8
theorem crcFold_lt : ∀ (l : List UInt8) (s : Nat), s < 4294967296 → l.foldl crcStep s < 4294967296
  | [], _, h => h
  | x :: l, _, h => crcFold_lt l _ (crcStep_lt h x)
theorem crc_lt (l : List UInt8) : crc l < 4294967296 := crcFold_lt l _ (by omega)
theorem sumOf_lt (l : List UInt8) : sumOf l < 4294967296 := by unfold sumOf; omega
theorem crc_take_succ (l : List UInt8) (k : Nat) (h : k < l.length) : crc (l.take (k + 1)) = crcStep (crc (l.take k)) l[k] := by
  unfold crc
  rw [List.take_succ_eq_append_getElem h, List.foldl_append]; rfl
theorem xor_ones (S : Nat) (h : S < 4294967296) : 4294967295 ^^^ S = 4294967295 - S := by
  apply Nat.eq_of_testBit_eq
  intro i
  have h1 : (4294967295 : Nat) = 2 ^ 32 - (0 + 1) := rfl
  have h2 : 4294967295 - S = 2 ^ 32 - (S + 1) := by omega
  rw [h2, Nat.testBit_two_pow_sub_succ (n := 32) (x := S) (by omega), Nat.testBit_xor, h1, Nat.testBit_two_pow_sub_succ (n := 32) (x := 0) (by omega)]
  by_cases hi : i < 32
  · simp [hi]
  · have : S.testBit i = false := Nat.testBit_lt_two_pow (Nat.lt_of_lt_of_le h (by
      rw [show (4294967296 : Nat) = 2 ^ 32 from rfl]; exact Nat.pow_le_pow_right (by omega) (by omega)))
    simp [hi, this]
theorem not_u32 (S : Nat) (h : S < 4294967296) : bits .xor .u32 IntKind.u32.max (S : Int) = ((4294967295 - S : Nat) : Int) := by
  have e : IntKind.u32.max = ((4294967295 : Nat) : Int) := by decide
  rw [e, u32_xor_nat _ _ (by omega) h, xor_ones S h]
theorem i64_xor_nat (a b : Nat) (ha : a < 2 ^ 62) (hb : b < 2 ^ 62) : bits .xor .i64 (a : Int) (b : Int) = ((a ^^^ b : Nat) : Int) := by
  have ha' : a % 2 ^ 64 = a := Nat.mod_eq_of_lt (Nat.lt_of_lt_of_le ha (by decide))
  have hb' : b % 2 ^ 64 = b := Nat.mod_eq_of_lt (Nat.lt_of_lt_of_le hb (by decide))
  have hx := Nat.xor_lt_two_pow ha hb
  simp only [bits, BitVec.ofInt_natCast]
  show IntKind.i64.wrap ((BitVec.ofNat 64 a ^^^ BitVec.ofNat 64 b).toNat : Int) = _
  rw [BitVec.toNat_xor, BitVec.toNat_ofNat, BitVec.toNat_ofNat, ha', hb']
  generalize a ^^^ b = n at hx
  rw [IntKind.wrap_i64]; omega
end Go.Proofs.YtimickmlmlihpaaDoor
