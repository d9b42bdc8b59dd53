/-
  Ten digits behind a path, as plain functions.
-/
import Derived.Test.YtjbmphkoafkgfaaDoorPathQ
import Derived.Lib.ItoaNum
namespace Go.Proofs.YtjbmphkoafkgfaaDoor

/-- The last k digits of a number. -/
def dig10 : Nat → Nat → List UInt8
  | 0, _ => []
  | k + 1, n => dig10 k (n / 10) ++ [UInt8.ofNat (48 + n % 10)]
theorem dig10_length : ∀ k n, (dig10 k n).length = k
  | 0, _ => rfl
  | k + 1, n => by simp [dig10, dig10_length k]
theorem dig10_cons : ∀ (k n : Nat), dig10 (k + 1) n = UInt8.ofNat (48 + n / 10 ^ k % 10) :: dig10 k n
  | 0, n => by simp [dig10]
  | k + 1, n => by
    rw [dig10, dig10_cons k (n / 10), Nat.div_div_eq_div_mul, show 10 * 10 ^ k = 10 ^ (k + 1) from by rw [Nat.pow_succ]; omega]
    rfl
theorem dig10_zero : ∀ k, dig10 k 0 = List.replicate k 48
  | 0 => rfl
  | k + 1 => by rw [dig10_cons, dig10_zero k, Nat.zero_div]; rfl
theorem dig10_pad : ∀ (k n : Nat), n < 10 ^ (k + 1) → (Lib.decDigits n).length ≤ k + 1 ∧ List.replicate (k + 1 - (Lib.decDigits n).length) 48 ++ Lib.decDigits n = dig10 (k + 1) n
  | 0, n, h => by
    have hn : n < 10 := by simpa using h
    rw [Lib.decDigits_one hn]
    refine ⟨by simp, ?_⟩
    rw [dig10, Nat.mod_eq_of_lt hn]; rfl
  | k + 1, n, h => by
    by_cases hn : n < 10
    · rw [Lib.decDigits_one hn]
      refine ⟨by simp, ?_⟩
      rw [dig10, Nat.mod_eq_of_lt hn, Nat.div_eq_of_lt hn, dig10_zero]; rfl
    · have hlt : n / 10 < 10 ^ (k + 1) := by rw [Nat.pow_succ] at h; omega
      obtain ⟨h1, h2⟩ := dig10_pad k (n / 10) hlt
      rw [Lib.decDigits, dif_neg hn]
      refine ⟨by simp; omega, ?_⟩
      rw [dig10, ← h2, List.length_append, List.append_assoc]
      congr 2
      simp
theorem dig10_mod : ∀ (k n : Nat), dig10 k n = dig10 k (n % 10 ^ k)
  | 0, _ => rfl
  | k + 1, n => by
    rw [dig10, dig10, dig10_mod k (n / 10), dig10_mod k (n % 10 ^ (k + 1) / 10)]
    have e1 : n % 10 ^ (k + 1) % 10 = n % 10 := by
      rw [Nat.pow_succ, Nat.mul_comm]; exact Nat.mod_mul_right_mod n 10 (10 ^ k)
    have e2 : n % 10 ^ (k + 1) / 10 % 10 ^ k = n / 10 % 10 ^ k := by
      rw [Nat.pow_succ, Nat.mul_comm, Nat.mod_mul_right_div_self, Nat.mod_mod]
    rw [e1, e2]
theorem less_cons (c : UInt8) (x y : List UInt8) : Op.bytesLess (c :: x) (c :: y) = Op.bytesLess x y := by
  rw [Op.bytesLess]; simp
theorem less_append : ∀ (p x y : List UInt8), Op.bytesLess (p ++ x) (p ++ y) = Op.bytesLess x y
  | [], _, _ => rfl
  | c :: p, x, y => by rw [List.cons_append, List.cons_append, less_cons, less_append p]
theorem dig_lt {d e : Nat} (hd : d < 10) (he : e < 10) : (UInt8.ofNat (48 + d) < UInt8.ofNat (48 + e)) ↔ d < e := by
  rw [UInt8.lt_iff_toNat_lt]
  have h1 : (UInt8.ofNat (48 + d)).toNat = 48 + d := by simp; omega
  have h2 : (UInt8.ofNat (48 + e)).toNat = 48 + e := by simp; omega
  rw [h1, h2]; omega
theorem dig_eq {d e : Nat} (hd : d < 10) (he : e < 10) : (UInt8.ofNat (48 + d) = UInt8.ofNat (48 + e)) ↔ d = e := by
  constructor
  · intro h
    have := congrArg UInt8.toNat h
    have h1 : (UInt8.ofNat (48 + d)).toNat = 48 + d := by simp; omega
    have h2 : (UInt8.ofNat (48 + e)).toNat = 48 + e := by simp; omega
    rw [h1, h2] at this; omega
  · intro h; rw [h]
theorem dig10_less : ∀ (k a b : Nat), a < 10 ^ k → b < 10 ^ k → (Op.bytesLess (dig10 k a) (dig10 k b) = true ↔ a < b)
  | 0, a, b, ha, hb => by
    simp at ha hb
    subst ha; subst hb
    simp [dig10, Op.bytesLess]
  | k + 1, a, b, ha, hb => by
    have hp : 0 < 10 ^ k := Nat.pow_pos (by decide)
    have ha' : a / 10 ^ k < 10 := by rw [Nat.div_lt_iff_lt_mul hp]; rw [Nat.pow_succ] at ha; omega
    have hb' : b / 10 ^ k < 10 := by rw [Nat.div_lt_iff_lt_mul hp]; rw [Nat.pow_succ] at hb; omega
    rw [dig10_cons, dig10_cons, Nat.mod_eq_of_lt ha', Nat.mod_eq_of_lt hb', Op.bytesLess, dig10_mod k a, dig10_mod k b]
    have ih := dig10_less k (a % 10 ^ k) (b % 10 ^ k) (Nat.mod_lt _ hp) (Nat.mod_lt _ hp)
    simp only [Bool.or_eq_true, decide_eq_true_eq, Bool.and_eq_true, beq_iff_eq, ih, dig_lt ha' hb', dig_eq ha' hb']
    have da := Nat.div_add_mod a (10 ^ k)
    have db := Nat.div_add_mod b (10 ^ k)
    have ma := Nat.mod_lt a hp
    have mb := Nat.mod_lt b hp
    generalize a % 10 ^ k = ra at *
    generalize b % 10 ^ k = rb at *
    generalize a / 10 ^ k = qa at *
    generalize b / 10 ^ k = qb at *
    generalize 10 ^ k = P at *
    constructor
    · rintro (h | ⟨h1, h2⟩)
      · have h3 : P * (qa + 1) ≤ P * qb := Nat.mul_le_mul_left P h
        rw [Nat.mul_add] at h3
        omega
      · subst h1; omega
    · intro h
      rcases Nat.lt_trichotomy qa qb with h1 | h1 | h1
      · exact .inl h1
      · subst h1; exact .inr ⟨rfl, by omega⟩
      · have h3 : P * (qb + 1) ≤ P * qa := Nat.mul_le_mul_left P h1
        rw [Nat.mul_add] at h3
        omega
theorem dig10_inj {k a b : Nat} (ha : a < 10 ^ k) (hb : b < 10 ^ k) (h : dig10 k a = dig10 k b) : a = b := by
  have h1 := dig10_less k a b ha hb
  have h2 := dig10_less k b a hb ha
  rw [h] at h1
  rw [h] at h2
  have h3 := h1.symm.trans h2
  omega
/-- A path with ten digits behind it. -/
def suffixP (p : List UInt8) (n : Int) : Option (List UInt8) :=
  match parts p with
  | none => none
  | some ls => if ls = [] ∨ n < 0 ∨ 9999999999 < n then none else if (parts (p ++ dig10 10 n.toNat)).isSome then some (p ++ dig10 10 n.toNat) else none
end Go.Proofs.YtjbmphkoafkgfaaDoor
