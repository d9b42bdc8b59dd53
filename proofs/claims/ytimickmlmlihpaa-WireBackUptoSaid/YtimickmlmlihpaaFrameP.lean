/-
  Frames as plain functions on lists of bytes.
-/
import Derived.Test.YtimickmlmlihpaaSumP
import Derived.Test.YtimickmlmlihpaaNumP
namespace Go.Proofs.Ytimickmlmlihpaa
open Go.RowKit

def four (n : Nat) : List UInt8 := [UInt8.ofNat n, UInt8.ofNat (n / 256), UInt8.ofNat (n / 65536), UInt8.ofNat (n / 16777216)]
def value4 (l : List UInt8) : Nat := (l.getD 0 0).toNat + 256 * (l.getD 1 0).toNat + 65536 * (l.getD 2 0).toNat + 16777216 * (l.getD 3 0).toNat
theorem four_length (n : Nat) : (four n).length = 4 := rfl
theorem toNat_ofNat' (n : Nat) : (UInt8.ofNat n).toNat = n % 256 := by simp
theorem value4_lt (l : List UInt8) : value4 l < 4294967296 := by
  unfold value4
  have h0 := (l.getD 0 0).toNat_lt
  have h1 := (l.getD 1 0).toNat_lt
  have h2 := (l.getD 2 0).toNat_lt
  have h3 := (l.getD 3 0).toNat_lt
  omega
theorem value4_four {n : Nat} (h : n < 4294967296) (r : List UInt8) : value4 (four n ++ r) = n := by
  simp only [value4, four, List.cons_append, List.nil_append, List.getD_cons_zero, List.getD_cons_succ, toNat_ofNat']
  omega
theorem four_value4 (l : List UInt8) (h : 4 ≤ l.length) : four (value4 l) = l.take 4 := by
  match l, h with
  | a :: b :: c :: d :: r, _ =>
    have ha := a.toNat_lt
    have hb := b.toNat_lt
    have hc := c.toNat_lt
    have hd := d.toNat_lt
    simp only [value4, four, List.getD_cons_zero, List.getD_cons_succ, List.take_succ_cons, List.take_zero, List.cons.injEq, and_true]
    refine ⟨?_, ?_, ?_, ?_⟩ <;> (apply UInt8.toNat_inj.1; rw [toNat_ofNat']; omega)

/-- A payload's frame. -/
def frameOf (p : List UInt8) : List UInt8 := four p.length ++ four (sumOf (four p.length ++ p)) ++ p
def frameBytes (p : List UInt8) : List UInt8 := if p.length ≤ 65536 then frameOf p else []
def frameErr (p : List UInt8) : Int := if p.length ≤ 65536 then 0 else 14
theorem frameOf_length (p : List UInt8) : (frameOf p).length = 8 + p.length := by
  unfold frameOf; rw [List.length_append, List.length_append, four_length, four_length]

/-- Opening the frame at the head of r: the payload, the error. -/
def unframe (r : List UInt8) : List UInt8 × Nat :=
  if r.length < 8 then ([], 12)
  else if 65536 < value4 r then ([], 14)
  else if r.length - 8 < value4 r then ([], 12)
  else if sumOf (four (value4 r) ++ (r.drop 8).take (value4 r)) = value4 (r.drop 4) then ((r.drop 8).take (value4 r), 0) else ([], 15)
/-- .. at a place: the payload, the place behind it, the error. -/
def unframeAt (b : List UInt8) (n : Int) : List UInt8 × Int × Int :=
  if 0 ≤ n ∧ n ≤ b.length then
    if (unframe (b.drop n.toNat)).2 = 0 then ((unframe (b.drop n.toNat)).1, n + 8 + (unframe (b.drop n.toNat)).1.length, 0) else ([], 0, (unframe (b.drop n.toNat)).2)
  else ([], 0, 11)
theorem value4_take (l : List UInt8) (k : Nat) (h : 4 ≤ k) : value4 (l.take k) = value4 l := by
  unfold value4
  simp only [List.getD_eq_getElem?_getD, List.getElem?_take]
  rw [if_pos (by omega), if_pos (by omega), if_pos (by omega), if_pos (by omega)]

theorem or_i64 (x y i : Nat) (hx : x < 2 ^ i) (hx2 : x < 2 ^ 62) (hy : y * 2 ^ i < 2 ^ 62) : bits .or .i64 (x : Int) ((y * 2 ^ i : Nat) : Int) = ((x + y * 2 ^ i : Nat) : Int) := by
  rw [(bits_nat .i64 62 (by decide) (fun n h0 h1 => by rw [IntKind.wrap_i64]; omega) x (y * 2 ^ i) hx2 hy).2]
  have := Nat.two_pow_add_eq_or_of_lt hx y
  rw [Nat.or_comm, Nat.mul_comm y, ← this, Nat.add_comm]
theorem or_bytes (x0 x1 x2 x3 : UInt8) : bits .or .i64 (bits .or .i64 (bits .or .i64 (x0.toNat : Int) ((x1.toNat : Int) * 256)) ((x2.toNat : Int) * 65536)) ((x3.toNat : Int) * 16777216) = ((x0.toNat + 256 * x1.toNat + 65536 * x2.toNat + 16777216 * x3.toNat : Nat) : Int) := by
  have y0 := x0.toNat_lt
  have y1 := x1.toNat_lt
  have y2 := x2.toNat_lt
  have y3 := x3.toNat_lt
  rw [show ((x1.toNat : Int) * 256) = ((x1.toNat * 2 ^ 8 : Nat) : Int) from by omega, or_i64 _ _ 8 (by omega) (by omega) (by omega),
    show ((x2.toNat : Int) * 65536) = ((x2.toNat * 2 ^ 16 : Nat) : Int) from by omega, or_i64 _ _ 16 (by omega) (by omega) (by omega),
    show ((x3.toNat : Int) * 16777216) = ((x3.toNat * 2 ^ 24 : Nat) : Int) from by omega, or_i64 _ _ 24 (by omega) (by omega) (by omega)]
  congr 1; omega
end Go.Proofs.Ytimickmlmlihpaa
