/-
  A client's configuration as an argument.
-/
import Derived.Test.YteiifligdfnifaaDoorArgs
import Derived.Test.YteiifligdfnifaaDoorCl3
namespace Go.Proofs.YteiifligdfnifaaDoor
open Go.RowKit
set_option linter.unusedVariables false

def TCf : Ty := .pair .str (.pair (.int .i64) (.pair (.int .i64) (.pair (.slice (.int .i64)) (.pair (.int .i64) (.pair (.pair (.int .i64) (.pair (.int .i64) .unit)) .unit)))))
theorem cfg_of {W : World} {v : Value} {cs : List Value} {x : TCf.El} (hv : ValOf TCf v cs) (h : Rd W TCf cs x) (hf : Fit TCf x) : ∃ c : Cfg, v = .agg #[.string ⟨c.home.toArray⟩, .int .i64 c.nonce, .int .i64 c.lease, .slice c.sa c.S.length c.sc, .int .i64 c.pat, .int .i64 c.p, .int .i64 c.q] ∧ RowAt W c.sa (c.S.map (Value.int .i64)) ∧ (c.sa = none → c.sc = 0) ∧ c.S.length ≤ 140737488355328 := by
  obtain ⟨c1, d1, rfl, -, ⟨rfl, -⟩, c2, d2, rfl, -, ⟨rfl, -⟩, c3, d3, rfl, -, ⟨rfl, -⟩, c4, d4, rfl, -, h4, c5, d5, rfl, -, ⟨rfl, -⟩, c6, d6, rfl, -, ⟨c7, d7, rfl, -, ⟨rfl, -⟩, c8, d8, rfl, -, ⟨rfl, -⟩, rfl⟩, rfl⟩ := h
  have h4' := h4
  obtain ⟨a, cap, vss, rfl, h0, -⟩ := h4'
  obtain ⟨a', c', e, g0, g1, g2, hr⟩ := ints_of_rd h4
  simp only [Value.slice.injEq] at e
  obtain ⟨rfl, -, rfl⟩ := e
  have hb := hf.2.2.2.1.1
  refine ⟨⟨x.1, x.2.1, x.2.2.1, x.2.2.2.1, a, cap, x.2.2.2.2.1, x.2.2.2.2.2.1.1, x.2.2.2.2.2.1.2.1⟩, hv, hr, h0, ?_⟩
  show x.2.2.2.1.length ≤ _
  unfold reachBytes at hb
  simp only [Ty.bytes] at hb
  omega
end Go.Proofs.YteiifligdfnifaaDoor
