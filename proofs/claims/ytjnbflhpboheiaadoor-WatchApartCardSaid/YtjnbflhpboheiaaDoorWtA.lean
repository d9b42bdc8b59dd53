/-
  Effects as arguments.
-/
import Derived.Test.YtjnbflhpboheiaaDoorArgs
import Derived.Test.YtjnbflhpboheiaaDoorWtP
namespace Go.Proofs.YtjnbflhpboheiaaDoor
open Go.RowKit
set_option linter.unusedVariables false

def TEf : Ty := .pair (.int .i64) (.pair .str .unit)
def toEf (x : TEf.El) : Ef := ⟨x.1, x.2.1⟩
theorem effs_of_rd {w : World} {v : Value} {l : List TEf.El} (h : Rd w (.slice TEf) [v] l) : ∃ (a : Option Addr) (c : Nat), v = .slice a (l.map toEf).length c ∧ RowAt w a ((l.map toEf).flatMap efC) := by
  obtain ⟨a, cap, vss, hv, h0, h1, h2, hl, hr, hx⟩ := h
  simp only [List.cons.injEq, and_true] at hv
  refine ⟨a, cap, by rw [hv, List.length_map], ?_⟩
  have e : vss = (l.map toEf).map efC := by
    refine List.ext_getElem (by simp [hl]) fun j h1 h2 => ?_
    have hj : j < l.length := by omega
    obtain ⟨-, c1, d1, e1, -, ⟨rfl, -⟩, c2, d2, rfl, -, ⟨rfl, -⟩, rfl⟩ := hx j vss[j] l[j] (List.getElem?_eq_getElem h1) (List.getElem?_eq_getElem hj)
    rw [e1]
    simp [efC, toEf]
  rw [e] at hr
  rw [List.flatMap_def]
  exact hr
end Go.Proofs.YtjnbflhpboheiaaDoor
