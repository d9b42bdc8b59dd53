/-
  LeaseSafe: the plain law, and the steps as arguments.
-/
import Derived.Test.YtebmhjphnlgojaaLk3
import Derived.Test.YtebmhjphnlgojaaArgs
namespace Go.Proofs.Ytebmhjphnlgojaa
open Go.RowKit
set_option maxRecDepth 20000
set_option linter.unusedVariables false

structure LP (p q n : Int) (i : Nat) (cl sv CL SL U Bc : Int) (sl ar : List Int) : Prop where
  c0 : 0 ≤ cl
  c1 : cl ≤ i * 1048576
  s0 : 0 ≤ sv
  s1 : sv ≤ i * 1048576
  cc : CL ≤ cl
  ss0 : 0 ≤ SL
  ss : SL ≤ sv
  dr : (sv - SL) * q ≤ (cl - CL) * p
  u : U ≤ CL + (n * q).tdiv p
  sl : ∀ x ∈ sl, 0 ≤ x ∧ x ≤ cl
  ar : ∀ x ∈ ar, 0 ≤ x ∧ x ≤ i
  b0 : 0 ≤ Bc
  b1 : Bc ≤ i * 201
theorem due_invalid {p q n cl sv CL SL U : Int} (hr : RightD p q) (hn : RightL n) (h1 : (sv - SL) * q ≤ (cl - CL) * p) (hu : U ≤ CL + (n * q).tdiv p) (hd : n ≤ sv - SL) : U ≤ cl := by
  obtain ⟨q1, q2, q3⟩ := hr
  have h2 : n * q ≤ (sv - SL) * q := Int.mul_le_mul_of_nonneg_right hd (by omega)
  have h3 : 0 ≤ n * q := Int.mul_nonneg (by have := hn.1; omega) (by omega)
  have h4 : (n * q).tdiv p ≤ cl - CL := by
    rw [Int.tdiv_eq_ediv_of_nonneg h3]
    exact Int.ediv_le_of_le_mul (by omega) (by omega)
  omega
theorem drift_step {p q cl sv CL SL x y : Int} (h1 : (sv - SL) * q ≤ (cl - CL) * p) (h2 : y * q ≤ x * p) : (sv + y - SL) * q ≤ (cl + x - CL) * p := by
  have e1 : (sv + y - SL) * q = (sv - SL) * q + y * q := by rw [← Int.add_mul]; congr 1; omega
  have e2 : (cl + x - CL) * p = (cl - CL) * p + x * p := by rw [← Int.add_mul]; congr 1; omega
  rw [e1, e2]; omega
/-- Behind the step's clocks, ahead of its renewals. -/
theorem LP.clocks {p q n : Int} {i : Nat} {cl sv CL SL U Bc x y : Int} {sl ar : List Int} (h : LP p q n i cl sv CL SL U Bc sl ar) (hw : WithinD p q x y) (hx : x ≤ 1048576) (hy : y ≤ 1048576) :
    0 ≤ cl + x ∧ cl + x ≤ (i + 1 : Nat) * 1048576 ∧ 0 ≤ sv + y ∧ sv + y ≤ (i + 1 : Nat) * 1048576 ∧ CL ≤ cl + x ∧ SL ≤ sv + y ∧ (sv + y - SL) * q ≤ (cl + x - CL) * p ∧ (∀ z ∈ sl, 0 ≤ z ∧ z ≤ cl + x) := by
  obtain ⟨h1, h2, h3, h4, h5, h6, h7, h8, h9, h10, h11, h12, h13⟩ := h
  obtain ⟨w1, ⟨w2, -⟩, ⟨w3, -⟩, w4, w5⟩ := hw
  refine ⟨by omega, by omega, by omega, by omega, by omega, by omega, drift_step h8 w5, fun z hz => ?_⟩
  have := h10 z hz
  omega

def TSt : Ty := .pair (.int .i64) (.pair (.int .i64) (.pair .bool (.pair (.int .i64) .unit)))
def stC (x : TSt.El) : List Value := [.int .i64 x.1, .int .i64 x.2.1, .bool x.2.2.1, .int .i64 x.2.2.2.1]
theorem steps_of {w : World} {v : Value} {l : List TSt.El} (h : Rd w (.slice TSt) [v] l) : ∃ (a : Option Addr) (c : Nat), v = .slice a l.length c ∧ RowAt w a (l.flatMap stC) := by
  obtain ⟨a, cap, vss, hv, h0, h1, h2, hl, hr, hx⟩ := h
  simp only [List.cons.injEq, and_true] at hv
  subst hv
  have e : vss = l.map stC := by
    refine List.ext_getElem (by simp [hl]) (fun j h1 h2 => ?_)
    obtain ⟨-, c1, c2, e, l1, ⟨rfl, -⟩, c3, c4, rfl, l3, ⟨rfl, -⟩, c5, c6, rfl, l5, rfl, c7, c8, rfl, l7, ⟨rfl, -⟩, rfl⟩ := hx j vss[j] (l[j]'(by omega)) (List.getElem?_eq_getElem h1) (List.getElem?_eq_getElem _)
    rw [e, List.getElem_map]; rfl
  rw [e] at hr
  exact ⟨a, cap, rfl, by rw [List.flatMap_def]; exact hr⟩
theorem row_st {w : World} {a : Option Addr} {l : List TSt.El} (h : RowAt w a (l.flatMap stC)) {j : Nat} (hj : j < l.length) : ∃ b o, a = some ⟨b, o, none⟩ ∧
    w.cell? ⟨b, o + j * 4, none⟩ = some (.int .i64 l[j].1) ∧ w.cell? ⟨b, o + j * 4 + 1, none⟩ = some (.int .i64 l[j].2.1) ∧ w.cell? ⟨b, o + j * 4 + 2, none⟩ = some (.bool l[j].2.2.1) ∧ w.cell? ⟨b, o + j * 4 + 3, none⟩ = some (.int .i64 l[j].2.2.2.1) := by
  have get : ∀ (l : List TSt.El) (j i : Nat) (hj : j < l.length), i < 4 → (l.flatMap stC)[j * 4 + i]? = (stC l[j])[i]? := by
    intro l
    induction l with
    | nil => intro j i hj; simp at hj
    | cons x l ih =>
      intro j i hj hi
      have hl : (stC x).length = 4 := rfl
      rw [List.flatMap_cons]
      cases j with
      | zero => rw [List.getElem?_append_left (by rw [hl]; omega)]; simp
      | succ j =>
        rw [List.getElem?_append_right (by rw [hl]; omega), hl, show (j + 1) * 4 + i - 4 = j * 4 + i by omega, ih j i (by simpa using hj) hi]
        rfl
  have key : ∀ i v, (stC l[j])[i]? = some v → i < 4 → ∃ b o, a = some ⟨b, o, none⟩ ∧ w.cell? ⟨b, o + (j * 4 + i), none⟩ = some v := fun i v hv hi => h (j * 4 + i) v (by rw [get l j i hj hi]; exact hv)
  obtain ⟨b, o, rfl, h0⟩ := key 0 _ rfl (by decide)
  have k2 : ∀ i v, (stC l[j])[i]? = some v → i < 4 → w.cell? ⟨b, o + (j * 4 + i), none⟩ = some v := fun i v hv hi => by
    obtain ⟨b', o', e, h1⟩ := key i v hv hi
    simp only [Option.some.injEq, Addr.mk.injEq, and_true] at e
    obtain ⟨rfl, rfl⟩ := e
    exact h1
  exact ⟨b, o, rfl, h0, by have := k2 1 _ rfl (by decide); rw [← Nat.add_assoc] at this; exact this, by have := k2 2 _ rfl (by decide); rw [← Nat.add_assoc] at this; exact this, by have := k2 3 _ rfl (by decide); rw [← Nat.add_assoc] at this; exact this⟩
end Go.Proofs.Ytebmhjphnlgojaa
