/-
  A script of ops as an argument.
-/
import Derived.Test.YtjnbflhpboheiaaDoorWtA
import Derived.Test.YtjnbflhpboheiaaDoorWtH
namespace Go.Proofs.YtjnbflhpboheiaaDoor
open Go.RowKit
set_option linter.unusedVariables false

def TKy : Ty := .pair .str (.pair (.int .i64) .unit)
def TWq : Ty := .pair (.int .i64) (.pair (.int .i64) (.pair TKy (.pair .str (.pair (.slice TEf) .unit))))
theorem effs_nil {w : World} {c : List Value} {l : List TEf.El} (h : Rd w (.slice TEf) c l) : ∃ (a : Option Addr) (cp : Nat), c = [.slice a (l.map toEf).length cp] ∧ RowAt w a ((l.map toEf).flatMap efC) ∧ (a = none → cp = 0) := by
  have h' := h
  obtain ⟨a, cap, vss, rfl, h0, -⟩ := h'
  obtain ⟨a', c', e, hr⟩ := effs_of_rd h
  simp only [Value.slice.injEq] at e
  obtain ⟨rfl, e2, rfl⟩ := e
  exact ⟨a, cap, by rw [List.length_map], hr, h0⟩
theorem wq_of {w : World} {v : List Value} {x : TWq.El} (h : Rd w TWq v x) (hf : Fit TWq x) : ∃ o : Wq, v = wqC o ∧ WqAt w o := by
  obtain ⟨c1, d1, rfl, -, ⟨rfl, -⟩, c2, d2, rfl, -, ⟨rfl, -⟩, c3, d3, rfl, -, ⟨c6, d6, rfl, -, ⟨rfl, -⟩, c7, d7, rfl, -, ⟨rfl, -⟩, rfl⟩, c4, d4, rfl, -, ⟨rfl, -⟩, c5, d5, rfl, -, he, rfl⟩ := h
  obtain ⟨a, cp, rfl, hr, hn⟩ := effs_nil he
  have hb := hf.2.2.2.2.1.1
  refine ⟨⟨x.1, x.2.1, x.2.2.1.1, x.2.2.1.2.1, x.2.2.2.1, a, cp, x.2.2.2.2.1.map toEf⟩, rfl, hr, hn, ?_⟩
  show (x.2.2.2.2.1.map toEf).length ≤ _
  rw [List.length_map]
  have : TEf.bytes = 24 := rfl
  rw [this] at hb
  unfold reachBytes at hb
  omega
theorem wqs_of {w : World} : ∀ (l : List TWq.El) (vss : List (List Value)), vss.length = l.length →
    (∀ (j : Nat) v x, vss[j]? = some v → l[j]? = some x → Rd w TWq v x) → (∀ x ∈ l, Fit TWq x) → ∃ os : List Wq, os.length = l.length ∧ vss = os.map wqC ∧ ∀ o ∈ os, WqAt w o
  | [], [], _, _, _ => ⟨[], rfl, rfl, fun o ho => by simp at ho⟩
  | [], _ :: _, h, _, _ => by simp at h
  | _ :: _, [], h, _, _ => by simp at h
  | x :: l, v :: vss, h, hx, hf => by
    obtain ⟨o, e1, ho⟩ := wq_of (hx 0 v x rfl rfl) (hf x (List.mem_cons_self ..))
    obtain ⟨os, h1, h2, h3⟩ := wqs_of l vss (by simpa using h) (fun j v' x' hv hx' => hx (j + 1) v' x' (by simpa using hv) (by simpa using hx')) (fun y hy => hf y (List.mem_cons_of_mem _ hy))
    refine ⟨o :: os, by simp [h1], by rw [e1, h2]; rfl, fun p hp => ?_⟩
    rcases List.mem_cons.1 hp with rfl | hp
    · exact ho
    · exact h3 p hp
theorem wscript_of {W : World} {v : Value} {l : List TWq.El} (h : Rd W (.slice TWq) [v] l) (hf : Fit (.slice TWq) l) : ∃ (a : Option Addr) (c : Nat) (os : List Wq), v = .slice a os.length c ∧ RowAt W a (os.flatMap wqC) ∧ (∀ o ∈ os, WqAt W o) ∧ os.length ≤ 1759218604441 := by
  obtain ⟨a, cap, vss, hv, h0, h1, h2, hl, hr, hx⟩ := h
  obtain ⟨os, e1, e2, e3⟩ := wqs_of l vss hl (fun j v x hv hx' => (hx j v x hv hx').2) hf.2
  simp only [List.cons.injEq, and_true] at hv
  subst hv
  refine ⟨a, cap, os, by rw [e1], ?_, e3, ?_⟩
  · rw [e2] at hr
    exact hr
  · have hb := hf.1
    have : TWq.bytes = 80 := rfl
    rw [this] at hb
    unfold reachBytes at hb
    omega
theorem key_of {W : World} {v : Value} {cs : List Value} {x : TKy.El} (hv : ValOf TKy v cs) (h : Rd W TKy cs x) : v = .agg #[tkey x.1, .int .i64 x.2.1] := by
  obtain ⟨c6, d6, rfl, -, ⟨rfl, -⟩, c7, d7, rfl, -, ⟨rfl, -⟩, rfl⟩ := h
  exact hv
end Go.Proofs.YtjnbflhpboheiaaDoor
