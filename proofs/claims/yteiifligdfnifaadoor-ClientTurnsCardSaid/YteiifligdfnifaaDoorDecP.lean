/-
  Reading one number out of bytes, as a plain function.
-/
import Derived.Test.YteiifligdfnifaaDoorNumP
namespace Go.Proofs.YteiifligdfnifaaDoor
open Go.RowKit

/-- The value of the first k bytes. -/
def val : List UInt8 → Nat → Nat
  | _, 0 => 0
  | [], _ + 1 => 0
  | x :: r, k + 1 => x.toNat % 128 + 128 * val r k
theorem val_zero (r : List UInt8) : val r 0 = 0 := by cases r <;> rfl
theorem val_succ : ∀ (r : List UInt8) (k : Nat), k < r.length → val r (k + 1) = val r k + (r.getD k 0).toNat % 128 * 128 ^ k
  | [], k, h => by simp at h
  | x :: r, 0, _ => by simp [val, val_zero]
  | x :: r, k + 1, h => by
    have := val_succ r k (by simpa using h)
    show x.toNat % 128 + 128 * val r (k + 1) = x.toNat % 128 + 128 * val r k + _
    rw [this, Nat.mul_add, Nat.pow_succ]
    simp only [List.getD_cons_succ]
    rw [Nat.add_assoc]; congr 2
    rw [← Nat.mul_assoc, Nat.mul_comm 128, Nat.mul_assoc, Nat.mul_comm 128]
theorem val_lt : ∀ (r : List UInt8) (k : Nat), val r k < 128 ^ k
  | r, 0 => by rw [val_zero]; decide
  | [], k + 1 => by simp only [val]; exact Nat.pow_pos (by omega)
  | x :: r, k + 1 => by
    have := val_lt r k
    simp only [val, Nat.pow_succ]; omega

/-- The first of n bytes from i on that ends a number. -/
def fe (r : List UInt8) : Nat → Nat → Option Nat
  | 0, _ => none
  | n + 1, i => if i < r.length then (if (r.getD i 0).toNat < 128 then some i else fe r n (i + 1)) else none

/-- What a number's bytes tell: the number, how many bytes, the error. -/
def decode (r : List UInt8) : Nat × Nat × Nat := match fe r 9 0 with
  | none => if r.length < 9 then (0, 0, 12) else (0, 0, 13)
  | some i => if (0 < i ∧ (r.getD i 0).toNat = 0) ∨ 4611686018427387904 ≤ val r (i + 1) then (0, 0, 13) else (val r (i + 1), i + 1, 0)

theorem fe_lt (r : List UInt8) : ∀ (n i j : Nat), fe r n i = some j → i ≤ j ∧ j < i + n ∧ j < r.length ∧ (r.getD j 0).toNat < 128
  | 0, i, j, h => by simp [fe] at h
  | n + 1, i, j, h => by
    simp only [fe] at h
    split at h
    · split at h
      · obtain rfl := Option.some.inj h; exact ⟨Nat.le_refl _, by omega, by assumption, by assumption⟩
      · have := fe_lt r n (i + 1) j h; omega
    · cases h
/-- The error where the place is none. -/
def decodeAt (b : List UInt8) (at_ : Int) : Int × Int × Int :=
  if 0 ≤ at_ ∧ at_ ≤ b.length then
    if (decode (b.drop at_.toNat)).2.2 = 0 then ((decode (b.drop at_.toNat)).1, at_ + (decode (b.drop at_.toNat)).2.1, 0)
    else (0, 0, (decode (b.drop at_.toNat)).2.2)
  else (0, 0, 11)

theorem and127 (x : UInt8) : bits .and .u8 (x.toNat : Int) 127 = ((x.toNat % 128 : Nat) : Int) := by
  have hx := x.toNat_lt
  rw [show (127 : Int) = ((127 : Nat) : Int) from rfl, u8_and_nat _ _ (by omega) (by omega)]
  congr 1
  exact Nat.and_two_pow_sub_one_eq_mod x.toNat 7
theorem pow7 (k : Nat) : (2 : Nat) ^ (7 * k) = 128 ^ k := by rw [Nat.pow_mul]
theorem shl_in (y k : Nat) (hy : y < 128) (hk : k ≤ 8) : y * 128 ^ k < 2 ^ 63 := by
  have h1 : (128 : Nat) ^ k ≤ 128 ^ 8 := Nat.pow_le_pow_right (by omega) hk
  have h2 : y * 128 ^ k ≤ 127 * 128 ^ 8 := Nat.mul_le_mul (by omega) h1
  omega
theorem shl7 (y k : Nat) (hy : y < 128) (hk : k ≤ 8) : wrap64 ((y : Int) * 2 ^ (7 * k)) = ((y * 128 ^ k : Nat) : Int) := by
  have h := shl_in y k hy hk
  have e : (y : Int) * 2 ^ (7 * k) = ((y * 128 ^ k : Nat) : Int) := by
    rw [← pow7]; simp
  rw [e]
  generalize y * 128 ^ k = z at h
  exact w64 (by omega) (by omega)
theorem or_val (r : List UInt8) (k y : Nat) (hy : y < 128) (hk : k ≤ 8) : bits .or .i64 ((val r k : Nat) : Int) ((y * 128 ^ k : Nat) : Int) = ((val r k + y * 128 ^ k : Nat) : Int) := by
  have h1 := val_lt r k
  have h2 := shl_in y k hy hk
  have h3 : val r k < 2 ^ 63 := Nat.lt_of_lt_of_le h1 (by
    have : (128 : Nat) ^ k ≤ 128 ^ 8 := Nat.pow_le_pow_right (by omega) hk
    omega)
  rw [(bits_nat .i64 63 (by decide) (fun n h0 h1 => by rw [IntKind.wrap_i64]; omega) (val r k) (y * 128 ^ k) h3 h2).2]
  rw [← pow7] at h1 ⊢
  have := Nat.two_pow_add_eq_or_of_lt h1 y
  rw [Nat.or_comm, Nat.mul_comm y, ← this, Nat.add_comm]
theorem val_lt63 (r : List UInt8) (k : Nat) (hk : k ≤ 9) : val r k < 9223372036854775808 := Nat.lt_of_lt_of_le (val_lt r k) (by
    have : (128 : Nat) ^ k ≤ 128 ^ 9 := Nat.pow_le_pow_right (by omega) hk
    omega)

theorem val_drop (r : List UInt8) (j n : Nat) (hj : j < r.length) : val (r.drop j) (n + 1) = (r.getD j 0).toNat % 128 + 128 * val (r.drop (j + 1)) n := by
  rw [List.drop_eq_getElem_cons hj]
  simp [val, hj]
/-- What the reference asks of the last byte. -/
theorem big_iff (r : List UInt8) (i : Nat) (hi : i < r.length) (h8 : i ≤ 8) (hx : (r.getD i 0).toNat < 128) : 4611686018427387904 ≤ val r (i + 1) ↔ i = 8 ∧ 63 < (r.getD i 0).toNat := by
  have hs := val_succ r i hi
  have hl := val_lt r i
  rw [Nat.mod_eq_of_lt hx] at hs
  constructor
  · intro h
    by_cases h8' : i = 8
    · subst h8'
      refine ⟨rfl, ?_⟩
      rw [hs] at h; omega
    · exfalso
      have := val_lt r (i + 1)
      have h2 : (128 : Nat) ^ (i + 1) ≤ 128 ^ 8 := Nat.pow_le_pow_right (by omega) (by omega)
      omega
  · rintro ⟨rfl, h⟩
    rw [hs]; omega

theorem decode_some (r : List UInt8) (j : Nat) (hf : fe r 9 0 = some j) (hj : j < r.length) (h9 : j < 9) :
    decode r = if (0 < j ∧ (r.getD j 0).toNat = 0) ∨ (j = 8 ∧ 63 < (r.getD j 0).toNat) then (0, 0, 13) else (val r (j + 1), j + 1, 0) := by
  have hx := (fe_lt r 9 0 j hf).2.2.2
  have hb := big_iff r j hj (by omega) hx
  unfold decode
  rw [hf]
  simp only
  by_cases h1 : (0 < j ∧ (r.getD j 0).toNat = 0) ∨ (j = 8 ∧ 63 < (r.getD j 0).toNat)
  · rw [if_pos h1, if_pos (by rw [hb]; exact h1)]
  · rw [if_neg h1, if_neg (by rw [hb]; exact h1)]
end Go.Proofs.YteiifligdfnifaaDoor
