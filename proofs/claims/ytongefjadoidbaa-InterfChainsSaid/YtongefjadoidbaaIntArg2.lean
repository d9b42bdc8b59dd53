/-
  Interf: the arguments, with the homes' lengths.
-/
import Derived.Test.YtongefjadoidbaaIntArg
namespace Go.Proofs.Ytongefjadoidbaa
open Go.RowKit
set_option maxRecDepth 20000
set_option linter.unusedVariables false

theorem its_of2 {w : World} : ∀ (l : List ((Int × List UInt8 × List Int × Unit) × (Int × Int × Unit) × Int × Unit)) (vss : List (List Value)), vss.length = l.length →
    (∀ (j : Nat) v x, vss[j]? = some v → l[j]? = some x → v.length = 6 ∧ Rd w (.pair (.pair (.int .i64) (.pair .str (.pair (.slice (.int .u8)) .unit))) (.pair (.pair (.int .i64) (.pair (.int .i64) .unit)) (.pair (.int .i64) .unit))) v x) →
    ∃ its : List It, its.length = l.length ∧ vss = its.map itCells ∧ ∀ i ∈ its, (∃ d l c, i.data = .slice d l c) ∧ i.home.length ≤ maxLen
  | [], [], _, _ => ⟨[], rfl, rfl, by simp⟩
  | [], _ :: _, h, _ => by simp at h
  | _ :: _, [], h, _ => by simp at h
  | x :: l, v :: vss, h, hr => by
    obtain ⟨its, h1, h2, h3⟩ := its_of2 l vss (by simpa using h) (fun j v x hv hx => hr (j + 1) v x hv hx)
    obtain ⟨-, hx⟩ := hr 0 v x rfl rfl
    obtain ⟨c1, c2, rfl, -, hc, c3, c4, rfl, -, hi, c5, c6, rfl, -, ⟨rfl, -⟩, rfl⟩ := hx
    obtain ⟨c7, c8, rfl, -, ⟨rfl, -⟩, c9, c10, rfl, -, ⟨rfl, hsl⟩, c11, c12, rfl, -, ⟨a, cp, us, rfl, -⟩, rfl⟩ := hc
    obtain ⟨c13, c14, rfl, -, ⟨rfl, -⟩, c15, c16, rfl, -, ⟨rfl, -⟩, rfl⟩ := hi
    refine ⟨⟨x.1.1, x.1.2.1, .slice a x.1.2.2.1.length cp, x.2.1.1, x.2.1.2.1, x.2.2.1⟩ :: its, by simp [h1], ?_, ?_⟩
    · rw [List.map_cons, h2]; rfl
    · intro i hi
      rcases List.mem_cons.1 hi with rfl | hi
      · exact ⟨⟨_, _, _, rfl⟩, hsl⟩
      · exact h3 i hi
theorem items_of2 {W : World} {v : Value} {l : List TItem.El} (h : Rd W (.slice TItem) [v] l) : ∃ (a : Option Addr) (c : Nat) (its : List It), v = .slice a its.length c ∧ its.length = l.length ∧ RowAt W a (its.flatMap itCells) ∧ (∀ i ∈ its, (∃ d l c, i.data = .slice d l c) ∧ i.home.length ≤ maxLen) ∧ (a = none → c = 0) ∧ its.length ≤ c ∧ c ≤ maxLen := by
  obtain ⟨a, cap, vss, hv, h0, h1, h2, hl, hr, hx⟩ := h
  obtain ⟨its, e1, e2, e3⟩ := its_of2 l vss hl (fun j v x hv hx' => hx j v x hv hx')
  simp only [List.cons.injEq, and_true] at hv
  subst hv
  refine ⟨a, cap, its, by rw [e1], e1, ?_, e3, h0, by omega, h2⟩
  rw [e2] at hr
  exact hr
end Go.Proofs.Ytongefjadoidbaa
