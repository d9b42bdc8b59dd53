/-
  Maps whose keys are marks (a path and a kind).
-/
import Derived.Test.YtjnbflhpboheiaaDoorMapS
namespace Go.Proofs.YtjnbflhpboheiaaDoor
open Go.RowKit
set_option maxRecDepth 20000
set_option linter.unusedVariables false

theorem mkey_check (e : Bool) (k : List UInt8 × Int) (w : World) : (Instr.checkKey e 10000 60 (skey k)).run Tryd.prog w = .ok () w := by
  kernel_rfl
theorem mkey_eq (a b : List UInt8 × Int) (w : World) : (Op.equal 60 (skey a) (skey b)).run Tryd.prog w = .ok (decide (a = b)) w := by
  have h := eq_two (P := Tryd.prog) (t := 60) (f1 := (Tryd.prog.fieldsOf 60)[0]!) (f2 := (Tryd.prog.fieldsOf 60)[1]!) (w := w) (xs := #[.string ⟨a.1.toArray⟩, .int .i64 a.2]) (ys := #[.string ⟨b.1.toArray⟩, .int .i64 b.2])
    (x1 := .string ⟨a.1.toArray⟩) (y1 := .string ⟨b.1.toArray⟩) (x2 := .int .i64 a.2) (y2 := .int .i64 b.2) (b1 := a.1 == b.1) (b2 := a.2 == b.2) (by kernel_rfl) (by kernel_rfl) (by kernel_rfl) (by decide +kernel) (by decide +kernel) (by kernel_rfl) (by kernel_rfl) (by kernel_rfl) (by kernel_rfl)
    (by
      rw [run_equalIn_string w 9998 _ _ _ (by kernel_rfl)]
      rw [ByteArray.toList_eq, ByteArray.toList_eq])
    (run_equalIn_int w 9998 _ .i64 .i64 a.2 b.2 (by kernel_rfl))
  have e : (a.1 == b.1 && a.2 == b.2) = decide (a = b) := by
    rw [Bool.eq_iff_iff]
    simp [Prod.ext_iff]
  rw [e] at h
  exact h
theorem keyM : KeyOk Tryd.prog 60 skey :=
  KeyOk.asked (fs := Tryd.prog.fieldsOf 60) (by kernel_rfl) mkey_check mkey_eq (fun a => by
    have e : ((ByteArray.mk a.1.toArray) == (ByteArray.mk a.1.toArray)) = true := by rw [bytes_beq]; exact beq_self_eq_true _
    simp [Instr.sameBits, e])
end Go.Proofs.YtjnbflhpboheiaaDoor
