/-
  What is read as a number is what would be written for it, and the other way round: plain functions alone.
-/
import Derived.Test.YteiifligdfnifaaDoorDecP
namespace Go.Proofs.YteiifligdfnifaaDoor
open Go.RowKit

theorem fe_before (r : List UInt8) : ∀ (n i j : Nat), fe r n i = some j → ∀ q, i ≤ q → q < j → 128 ≤ (r.getD q 0).toNat
  | 0, i, j, h, q, _, _ => by simp [fe] at h
  | n + 1, i, j, h, q, h1, h2 => by
    simp only [fe] at h
    split at h
    · split at h
      · obtain rfl := Option.some.inj h; omega
      · by_cases e : q = i
        · subst e; omega
        · exact fe_before r n (i + 1) j h q (by omega) h2
    · cases h

theorem ofNat_self (x : UInt8) : UInt8.ofNat x.toNat = x := by simp

theorem enc_val : ∀ (i : Nat) (r : List UInt8), i < r.length → (∀ j, j < i → 128 ≤ (r.getD j 0).toNat) → (r.getD i 0).toNat < 128 → (r.getD i 0).toNat ≠ 0 → enc (val r (i + 1)) = r.take (i + 1) ∧ 0 < val r (i + 1)
  | 0, x :: r, _, _, hx, hn => by
    simp only [List.getD_cons_zero] at hx hn
    have hv : val (x :: r) (0 + 1) = x.toNat := by simp only [val, val_zero]; omega
    rw [hv]
    refine ⟨?_, by omega⟩
    rw [enc_small hx, ofNat_self]; rfl
  | i + 1, x :: r, hl, hall, hx, hn => by
    have hx0 := hall 0 (by omega)
    simp only [List.getD_cons_zero] at hx0
    have hx256 := x.toNat_lt
    obtain ⟨h1, h2⟩ := enc_val i r (by simpa using hl) (fun j hj => by have := hall (j + 1) (by omega); simpa using this) (by simpa using hx) (by simpa using hn)
    have hv : val (x :: r) (i + 1 + 1) = x.toNat % 128 + 128 * val r (i + 1) := rfl
    rw [hv]
    refine ⟨?_, by omega⟩
    rw [enc_big (by omega)]
    have e1 : (x.toNat % 128 + 128 * val r (i + 1)) / 128 = val r (i + 1) := by omega
    have e2 : 128 + (x.toNat % 128 + 128 * val r (i + 1)) % 128 = x.toNat := by omega
    rw [e1, e2, h1, ofNat_self]; rfl
  | _, [], hl, _, _, _ => by simp at hl

theorem decode_enc {r : List UInt8} {n u : Nat} (h : decode r = (n, u, 0)) : enc n = r.take u ∧ u ≤ r.length ∧ n < 4611686018427387904 := by
  unfold decode at h
  split at h
  · split at h <;> simp at h
  · rename_i i hi
    obtain ⟨_, h2, h3, h4⟩ := fe_lt r 9 0 i hi
    split at h
    · simp at h
    · rename_i hc
      simp only [Prod.mk.injEq, and_true] at h
      obtain ⟨rfl, rfl⟩ := h
      refine ⟨?_, by omega, by omega⟩
      by_cases hz : (r.getD i 0).toNat = 0
      · have hi0 : i = 0 := by omega
        subst hi0
        have hv := val_succ r 0 h3
        rw [hz, val_zero] at hv
        rw [hv]
        simp only [Nat.zero_mod, Nat.zero_mul, Nat.add_zero]
        rw [enc_small (by omega)]
        cases r with
        | nil => simp at h3
        | cons x r =>
          simp only [List.getD_cons_zero] at hz
          have : x = UInt8.ofNat 0 := by rw [← hz, ofNat_self]
          rw [this]; rfl
      · exact (enc_val i r h3 (fun j hj => fe_before r 9 0 i hi j (Nat.zero_le _) hj) h4 hz).1

theorem enc_app : ∀ (k n : Nat) (rest : List UInt8) (m : Nat), n < 128 ^ (k + 1) → k < m → ∃ i, i + 1 = (enc n).length ∧ fe (enc n ++ rest) m 0 = some i ∧ val (enc n ++ rest) (i + 1) = n ∧ (0 < i → ((enc n ++ rest).getD i 0).toNat ≠ 0) := by
  have shift : ∀ (x : UInt8) (r : List UInt8) (m i : Nat), fe (x :: r) m (i + 1) = (fe r m i).map (· + 1) := by
    intro x r m
    induction m with
    | zero => intro i; simp [fe]
    | succ m ih =>
      intro i
      simp only [fe, List.length_cons, List.getD_cons_succ, Nat.add_lt_add_iff_right]
      split
      · split
        · rfl
        · exact ih (i + 1)
      · rfl
  intro k
  induction k with
  | zero =>
    intro n rest m h hm
    obtain ⟨m, rfl⟩ : ∃ q, m = q + 1 := ⟨m - 1, by omega⟩
    rw [enc_small (by omega)]
    refine ⟨0, rfl, ?_, ?_, by omega⟩
    · simp only [fe, List.cons_append, List.getD_cons_zero, List.length_cons]
      rw [if_pos (by omega), if_pos (by rw [ofNat_toNat (by omega)]; omega)]
    · simp only [List.cons_append, val, val_zero]; rw [ofNat_toNat (by omega)]; omega
  | succ k ih =>
    intro n rest m h hm
    by_cases hs : n < 128
    · obtain ⟨m, rfl⟩ : ∃ q, m = q + 1 := ⟨m - 1, by omega⟩
      rw [enc_small hs]
      refine ⟨0, rfl, ?_, ?_, by omega⟩
      · simp only [fe, List.cons_append, List.getD_cons_zero, List.length_cons]
        rw [if_pos (by omega), if_pos (by rw [ofNat_toNat (by omega)]; omega)]
      · simp only [List.cons_append, val, val_zero]; rw [ofNat_toNat (by omega)]; omega
    · obtain ⟨m, rfl⟩ : ∃ q, m = q + 1 := ⟨m - 1, by omega⟩
      obtain ⟨i, h1, h2, h3, h4⟩ := ih (n / 128) rest m (by rw [Nat.div_lt_iff_lt_mul (by omega)]; rw [Nat.pow_succ] at h; omega) (by omega)
      rw [enc_big hs]
      have hx : (UInt8.ofNat (128 + n % 128)).toNat = 128 + n % 128 := ofNat_toNat (by omega)
      refine ⟨i + 1, by simp [h1], ?_, ?_, ?_⟩
      · simp only [List.cons_append]
        rw [fe, if_pos (by simp), if_neg (by rw [List.getD_cons_zero, hx]; omega), shift, h2]; rfl
      · simp only [List.cons_append]
        show (UInt8.ofNat (128 + n % 128)).toNat % 128 + 128 * val (enc (n / 128) ++ rest) (i + 1) = n
        rw [hx, h3]; omega
      · intro _
        simp only [List.cons_append, List.getD_cons_succ]
        by_cases hi : 0 < i
        · exact h4 hi
        · obtain rfl : i = 0 := by omega
          have hl1 : (enc (n / 128)).length = 1 := by omega
          by_cases hq : n / 128 < 128
          · rw [enc_small hq]
            simp only [List.cons_append, List.getD_cons_zero]
            rw [ofNat_toNat (by omega)]; omega
          · rw [enc_big hq, List.length_cons] at hl1
            have := enc_ne (n / 128 / 128)
            exact absurd (List.eq_nil_of_length_eq_zero (by omega)) this

theorem enc_decode {n : Nat} (hn : n < 4611686018427387904) (rest : List UInt8) : decode (enc n ++ rest) = (n, (enc n).length, 0) := by
  obtain ⟨i, h1, h2, h3, h4⟩ := enc_app 8 n rest 9 (by omega) (by omega)
  unfold decode
  rw [h2]
  simp only
  rw [h3, if_neg (by rintro (⟨a, b⟩ | h); · exact h4 a b
                     · omega), h1]

theorem decodeAt_mid (a b : List UInt8) {n : Nat} (hn : n < 4611686018427387904) : decodeAt (a ++ enc n ++ b) a.length = ((n : Int), ((a.length + (enc n).length : Nat) : Int), 0) := by
  have hd : (a ++ enc n ++ b).drop a.length = enc n ++ b := by
    rw [List.append_assoc, List.drop_append_of_le_length (Nat.le_refl _), List.drop_length]; rfl
  unfold decodeAt
  rw [if_pos ⟨by omega, by simp; omega⟩, Int.toNat_natCast, hd, enc_decode hn, if_pos rfl]
  simp
end Go.Proofs.YteiifligdfnifaaDoor
