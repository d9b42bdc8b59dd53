/-
  Events are compared.
-/
import Derived.Test.YtjnbflhpboheiaaDoorWt9
namespace Go.Proofs.YtjnbflhpboheiaaDoor
open Go.RowKit
set_option maxRecDepth 20000
set_option linter.unusedVariables false

theorem eq_three {P : Program} {t : TypeId} {f1 f2 f3 : Field} {w : World} {xs ys : Array Value} {x1 x2 x3 y1 y2 y3 : Value} {b1 b2 b3 : Bool} (ht : P.underlying t = some (.struct (P.fieldsOf t))) (hs : P.stoodInHeld t = false) (hf : (P.fieldsOf t).toList = [f1, f2, f3]) (n1 : f1.name ≠ "_") (n2 : f2.name ≠ "_") (n3 : f3.name ≠ "_")
    (p1 : (part f1.type xs f1.offset).run P w = .ok x1 w) (q1 : (part f1.type ys f1.offset).run P w = .ok y1 w) (p2 : (part f2.type xs f2.offset).run P w = .ok x2 w) (q2 : (part f2.type ys f2.offset).run P w = .ok y2 w) (p3 : (part f3.type xs f3.offset).run P w = .ok x3 w) (q3 : (part f3.type ys f3.offset).run P w = .ok y3 w)
    (e1 : (Op.equalIn 9999 f1.type x1 y1).run P w = .ok b1 w) (e2 : (Op.equalIn 9999 f2.type x2 y2).run P w = .ok b2 w) (e3 : (Op.equalIn 9999 f3.type x3 y3).run P w = .ok b3 w) : (Op.equal t (.agg xs) (.agg ys)).run P w = .ok (b1 && (b2 && b3)) w := by
  unfold Op.equal Op.maxDepth
  rw [show (10000 : Nat) = 9999 + 1 from rfl, run_equalIn_agg w 9999 t xs ys ht hs, hf]
  simp only [Op.eqFields, n1, n2, n3, ne_eq, not_false_eq_true, if_true, Sem.run_bind, p1, q1, e1, Result.andThen_ok]
  cases b1 <;> cases b2 <;> cases b3 <;> simp [p2, q2, e2, p3, q3, e3, Result.andThen]
theorem ev_eq (a b : Ev) (w : World) : (Op.equal 38 (.agg (evC a).toArray) (.agg (evC b).toArray)).run Tryd.prog w = .ok (decide (a = b)) w := by
  have h := eq_three (P := Tryd.prog) (t := 38) (f1 := (Tryd.prog.fieldsOf 38)[0]!) (f2 := (Tryd.prog.fieldsOf 38)[1]!) (f3 := (Tryd.prog.fieldsOf 38)[2]!) (w := w) (xs := (evC a).toArray) (ys := (evC b).toArray)
    (x1 := .int .i64 a.n) (y1 := .int .i64 b.n) (x2 := .int .i64 a.kind) (y2 := .int .i64 b.kind) (x3 := .string ⟨a.path.toArray⟩) (y3 := .string ⟨b.path.toArray⟩) (b1 := a.n == b.n) (b2 := a.kind == b.kind) (b3 := a.path == b.path) (by kernel_rfl) (by kernel_rfl) (by kernel_rfl) (by decide +kernel) (by decide +kernel) (by decide +kernel) (by kernel_rfl) (by kernel_rfl) (by kernel_rfl) (by kernel_rfl) (by kernel_rfl) (by kernel_rfl)
    (run_equalIn_int w 9998 _ .i64 .i64 a.n b.n (by kernel_rfl))
    (run_equalIn_int w 9998 _ .i64 .i64 a.kind b.kind (by kernel_rfl))
    (by
      rw [run_equalIn_string w 9998 _ _ _ (by kernel_rfl)]
      rw [ByteArray.toList_eq, ByteArray.toList_eq])
  have e : (a.n == b.n && (a.kind == b.kind && a.path == b.path)) = decide (a = b) := by
    rw [Bool.eq_iff_iff]
    obtain ⟨a1, a2, a3⟩ := a
    obtain ⟨b1, b2, b3⟩ := b
    simp
  rw [e] at h
  exact h
theorem ev_eql (a b : Ev) (w : World) : (binOp BinOp.eql 38 (.agg #[.int .i64 a.n, .int .i64 a.kind, tkey a.path]) (.agg #[.int .i64 b.n, .int .i64 b.kind, tkey b.path])).run Tryd.prog w = .ok (.bool (decide (a = b))) w := by
  have h := ev_eq a b w
  unfold binOp
  simp only [Sem.run_bind]
  show (Sem.run Tryd.prog (Op.equal 38 (.agg (evC a).toArray) (.agg (evC b).toArray)) w).andThen _ = _
  rw [h]; rfl
theorem ev_neq (a b : Ev) (w : World) : (binOp BinOp.neq 38 (.agg #[.int .i64 a.n, .int .i64 a.kind, tkey a.path]) (.agg #[.int .i64 b.n, .int .i64 b.kind, tkey b.path])).run Tryd.prog w = .ok (.bool (!decide (a = b))) w := by
  have h := ev_eq a b w
  unfold binOp
  simp only [Sem.run_bind]
  show (Sem.run Tryd.prog (Op.equal 38 (.agg (evC a).toArray) (.agg (evC b).toArray)) w).andThen _ = _
  rw [h]; rfl
end Go.Proofs.YtjnbflhpboheiaaDoor
