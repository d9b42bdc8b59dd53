/-
  Numbers as bytes, as plain functions.
-/
import Derived.Test.YteiifligdfnifaaDoorBase
namespace Go.Proofs.YteiifligdfnifaaDoor
open Go.RowKit

/-- The bytes of a number: seven bits each, the lowest first. -/
def enc (n : Nat) : List UInt8 := if n < 128 then [UInt8.ofNat n] else UInt8.ofNat (128 + n % 128) :: enc (n / 128)
termination_by n
decreasing_by omega

theorem enc_small {n : Nat} (h : n < 128) : enc n = [UInt8.ofNat n] := by rw [enc, if_pos h]
theorem enc_big {n : Nat} (h : ¬ n < 128) : enc n = UInt8.ofNat (128 + n % 128) :: enc (n / 128) := by rw [enc, if_neg h]
theorem enc_ne (n : Nat) : enc n ≠ [] := by
  rw [enc]; split <;> simp

/-- How many bytes a number below 2^(7k) has. -/
theorem enc_length : ∀ (k n : Nat), n < 128 ^ (k + 1) → (enc n).length ≤ k + 1
  | 0, n, h => by rw [enc_small (by omega)]; simp
  | k + 1, n, h => by
    by_cases h1 : n < 128
    · rw [enc_small h1]; simp
    · rw [enc_big h1, List.length_cons]
      have := enc_length k (n / 128) (by rw [Nat.div_lt_iff_lt_mul (by omega)]; rw [Nat.pow_succ] at h; omega)
      omega
theorem enc_length9 {n : Nat} (h : n < 2 ^ 63) : (enc n).length ≤ 9 := enc_length 8 n (by omega)

theorem or128 : ∀ m : Nat, m < 256 → m ||| 128 = 128 + m % 128 := by decide +kernel
theorem or_byte (n : Nat) : bits .or .u8 ((n : Int) % 256) 128 = ((128 + n % 128 : Nat) : Int) := by
  rw [show ((n : Int) % 256) = ((n % 256 : Nat) : Int) from by omega, show (128 : Int) = ((128 : Nat) : Int) from rfl, u8_or_nat _ _ (by omega) (by omega), or128 _ (by omega)]
  omega
theorem ofNat_toNat {n : Nat} (h : n < 256) : (UInt8.ofNat n).toNat = n := by simpa using Nat.mod_eq_of_lt h
theorem byt_ofNat {n : Nat} (h : n < 256) : byt (UInt8.ofNat n) = .int .u8 (n : Int) := by
  unfold byt
  rw [ofNat_toNat h]

/-- Which ints are numbers. -/
def isNum (n : Int) : Bool := decide (0 ≤ n ∧ n ≤ 4611686018427387903)

def encAll (ns : List Int) : List UInt8 := ns.flatMap fun n => enc n.toNat
theorem encAll_take (ns : List Int) (k : Nat) (h : k < ns.length) : encAll (ns.take (k + 1)) = encAll (ns.take k) ++ enc ns[k].toNat := by
  unfold encAll
  rw [List.take_succ_eq_append_getElem h, List.flatMap_append]; simp
theorem isNum_iff (n : Int) : isNum n = true ↔ 0 ≤ n ∧ n ≤ 4611686018427387903 := by simp [isNum]
theorem encAll_length : ∀ (ns : List Int), ns.all isNum = true → (encAll ns).length ≤ 9 * ns.length
  | [], _ => by simp [encAll]
  | n :: ns, h => by
    simp only [List.all_cons, Bool.and_eq_true, isNum_iff] at h
    have h1 := encAll_length ns h.2
    have h2 := enc_length9 (n := n.toNat) (by omega)
    have h3 : encAll (n :: ns) = enc n.toNat ++ encAll ns := rfl
    rw [h3, List.length_append, List.length_cons]; omega
theorem all_take_succ (ns : List Int) (k : Nat) (h : k < ns.length) : (ns.take (k + 1)).all isNum = ((ns.take k).all isNum && isNum ns[k]) := by
  rw [List.take_succ_eq_append_getElem h, List.all_append]; simp
theorem all_false {ns : List Int} {k : Nat} (h : k < ns.length) (hb : isNum ns[k] = false) : ns.all isNum = false := by
  rw [List.all_eq_false]
  exact ⟨ns[k], List.getElem_mem h, by simp [hb]⟩
end Go.Proofs.YteiifligdfnifaaDoor
