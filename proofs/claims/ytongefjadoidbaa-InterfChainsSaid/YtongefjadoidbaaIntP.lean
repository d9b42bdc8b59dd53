/-
  Interf, plain: what was added; the greatest of it.
-/
import Derived.Test.YtongefjadoidbaaBase
namespace Go.Proofs.Ytongefjadoidbaa
open Go.RowKit
set_option maxRecDepth 20000

structure It where
  kind : Int
  home : List UInt8
  data : Value
  rep : Int
  num : Int
  seq : Int
/-- Its cells. -/
def itCells (i : It) : List Value := [.int .i64 i.kind, .string ⟨i.home.toArray⟩, i.data, .int .i64 i.rep, .int .i64 i.num, .int .i64 i.seq]
/-- Do they interfere? -/
def interB (k1 : Int) (h1 : List UInt8) (k2 : Int) (h2 : List UInt8) : Bool :=
  decide (1 ≤ k1 ∧ k1 ≤ 2) && (decide (1 ≤ k2 ∧ k2 ≤ 2) && (decide (k1 = 2) || (decide (k2 = 2) || decide (h1 = h2))))
theorem interB_symm (k1 : Int) (h1 : List UInt8) (k2 : Int) (h2 : List UInt8) : interB k1 h1 k2 h2 = interB k2 h2 k1 h1 := by
  unfold interB
  rw [Bool.eq_iff_iff]
  simp only [Bool.and_eq_true, Bool.or_eq_true, decide_eq_true_iff]
  constructor
  · rintro ⟨a, b, c⟩
    exact ⟨b, a, by rcases c with c | c | c; exact .inr (.inl c); exact .inl c; exact .inr (.inr c.symm)⟩
  · rintro ⟨a, b, c⟩
    exact ⟨b, a, by rcases c with c | c | c; exact .inr (.inl c); exact .inl c; exact .inr (.inr c.symm)⟩
def KindOk (k : Int) : Prop := 0 ≤ k ∧ k ≤ 2
def RangeOk (n : Nat) (i : It) : Prop := 0 ≤ i.rep ∧ i.rep < n ∧ 1 ≤ i.num ∧ i.num ≤ 4611686018427387903 ∧ 0 ≤ i.seq ∧ i.seq < 4611686018427387903
def GoodIt (n : Nat) (i : It) : Prop := KindOk i.kind ∧ RangeOk n i
instance (k : Int) : Decidable (KindOk k) := by unfold KindOk; infer_instance
instance (n : Nat) (i : It) : Decidable (RangeOk n i) := by unfold RangeOk; infer_instance
instance (n : Nat) (i : It) : Decidable (GoodIt n i) := by unfold GoodIt; infer_instance
def addErr (n : Nat) (i : It) : Int := if KindOk i.kind then if RangeOk n i then 0 else 10 else 100
/-- The state behind one more. -/
def addS (n : Nat) (S : List It) (i : It) : List It := if GoodIt n i then S ++ [i] else S

def seqMax : List It → Int
  | [] => 0
  | i :: l => max i.seq (seqMax l)
def depMax (r : Int) : List It → Int
  | [] => 0
  | i :: l => if i.rep = r then max i.num (depMax r l) else depMax r l
def depsL (n : Nat) (L : List It) : List Int := (List.range n).map fun (r : Nat) => depMax (r : Int) L
theorem depsL_len (n : Nat) (L : List It) : (depsL n L).length = n := by unfold depsL; simp
theorem depsL_get (n : Nat) (L : List It) (r : Nat) (h : r < (depsL n L).length) : (depsL n L)[r] = depMax (r : Int) L := by
  simp only [depsL, List.getElem_map, List.getElem_range]
theorem seqMax_nonneg (L : List It) : 0 ≤ seqMax L := by
  induction L with
  | nil => exact Int.le_refl _
  | cons i l ih => simp only [seqMax]; omega
theorem depMax_nonneg (r : Int) (L : List It) : 0 ≤ depMax r L := by
  induction L with
  | nil => exact Int.le_refl _
  | cons i l ih => simp only [depMax]; split <;> omega
theorem seqMax_snoc (L : List It) (i : It) (hi : 0 ≤ i.seq) : seqMax (L ++ [i]) = max (seqMax L) i.seq := by
  induction L with
  | nil => simp [seqMax]; omega
  | cons j l ih => simp only [List.cons_append, seqMax, ih]; omega
theorem depMax_snoc (r : Int) (L : List It) (i : It) (hi : 0 ≤ i.num) : depMax r (L ++ [i]) = if i.rep = r then max (depMax r L) i.num else depMax r L := by
  induction L with
  | nil => simp only [List.nil_append, depMax]; split <;> omega
  | cons j l ih => simp only [List.cons_append, depMax, ih]; split <;> split <;> omega
theorem seqMax_bound {L : List It} {n : Nat} (h : ∀ i ∈ L, RangeOk n i) : seqMax L < 4611686018427387903 := by
  induction L with
  | nil => simp only [seqMax]; omega
  | cons i l ih =>
    have h1 := (h i (by simp)).2.2.2.2.2
    have h2 := ih (fun j hj => h j (by simp [hj]))
    simp only [seqMax]; omega
theorem depMax_bound {L : List It} {n : Nat} (r : Int) (h : ∀ i ∈ L, RangeOk n i) : depMax r L ≤ 4611686018427387903 := by
  induction L with
  | nil => simp only [depMax]; omega
  | cons i l ih =>
    have h1 := (h i (by simp)).2.2.2.1
    have h2 := ih (fun j hj => h j (by simp [hj]))
    simp only [depMax]; split <;> omega
theorem depsL_snoc {n : Nat} (L : List It) (i : It) (h : RangeOk n i) : depsL n (L ++ [i]) = (depsL n L).set i.rep.toNat (max (depMax i.rep L) i.num) := by
  apply List.ext_getElem
  · rw [depsL_len, List.length_set, depsL_len]
  · intro r h1 h2
    rw [depsL_get, depMax_snoc _ _ _ (by have := h.2.2.1; omega), List.getElem_set]
    have hr := h.1
    by_cases e : i.rep = r
    · rw [if_pos e, if_pos (by omega), e]
    · rw [if_neg e, if_neg (by omega), depsL_get]
/-- Of two kinds the greater. -/
theorem seqMax_or (L : List It) (p q : It → Bool) : seqMax (L.filter fun i => p i || q i) = max (seqMax (L.filter p)) (seqMax (L.filter q)) := by
  induction L with
  | nil => simp [seqMax]
  | cons i l ih =>
    cases hp : p i <;> cases hq : q i <;> simp [hp, hq, seqMax, ih] <;> omega
theorem depMax_or (r : Int) (L : List It) (p q : It → Bool) : depMax r (L.filter fun i => p i || q i) = max (depMax r (L.filter p)) (depMax r (L.filter q)) := by
  induction L with
  | nil => simp [depMax]
  | cons i l ih =>
    cases hp : p i <;> cases hq : q i <;> simp [hp, hq, depMax, ih] <;> (try split) <;> omega
/-- Only what is in it counts. -/
theorem seqMax_le {L M : List It} (h : ∀ i ∈ L, i ∈ M) : seqMax L ≤ seqMax M := by
  have key : ∀ (M : List It) (i : It), i ∈ M → i.seq ≤ seqMax M := by
    intro M
    induction M with
    | nil => intro i hi; cases hi
    | cons j m ih =>
      intro i hi
      simp only [seqMax]
      rcases List.mem_cons.1 hi with rfl | hi
      · omega
      · have := ih i hi; omega
  induction L with
  | nil => exact seqMax_nonneg M
  | cons i l ih =>
    have h1 := key M i (h i (by simp))
    have h2 := ih (fun j hj => h j (by simp [hj]))
    simp only [seqMax]; omega
theorem seqMax_mem {M : List It} {i : It} (hi : i ∈ M) : i.seq ≤ seqMax M := by
  have := seqMax_le (L := [i]) (M := M) (by simpa using hi)
  simp only [seqMax] at this; omega
theorem depMax_mem {M : List It} {i : It} (hi : i ∈ M) : i.num ≤ depMax i.rep M := by
  induction M with
  | nil => cases hi
  | cons j m ih =>
    simp only [depMax]
    rcases List.mem_cons.1 hi with rfl | hi
    · rw [if_pos rfl]; omega
    · have := ih hi; split <;> omega
theorem depMax_le {L M : List It} (r : Int) (h : ∀ i ∈ L, i ∈ M) : depMax r L ≤ depMax r M := by
  induction L with
  | nil => exact depMax_nonneg r M
  | cons i l ih =>
    have h1 := depMax_mem (h i (by simp))
    have h2 := ih (fun j hj => h j (by simp [hj]))
    simp only [depMax]
    split
    · rename_i e; rw [e] at h1; omega
    · exact h2
theorem seqMax_same {L M : List It} (h : ∀ i, i ∈ L ↔ i ∈ M) : seqMax L = seqMax M := Int.le_antisymm (seqMax_le fun i hi => (h i).1 hi) (seqMax_le fun i hi => (h i).2 hi)
theorem depsL_same {L M : List It} (n : Nat) (h : ∀ i, i ∈ L ↔ i ∈ M) : depsL n L = depsL n M := by
  unfold depsL
  refine List.map_congr_left fun r _ => ?_
  exact Int.le_antisymm (depMax_le _ fun i hi => (h i).1 hi) (depMax_le _ fun i hi => (h i).2 hi)
/-- What a command must come behind. -/
def interL (k : Int) (h : List UInt8) (S : List It) : List It := S.filter fun i => interB k h i.kind i.home
end Go.Proofs.Ytongefjadoidbaa
