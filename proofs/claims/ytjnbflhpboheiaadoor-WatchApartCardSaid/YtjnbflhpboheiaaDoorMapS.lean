/-
  Maps whose keys are a text and a number, or two numbers.
-/
import Derived.Test.YtjnbflhpboheiaaDoorMap
import Derived.Laws.StructEq
import Derived.Lib.Strings
import Derived.Test.YtjnbflhpboheiaaDoorProg
namespace Go.Proofs.YtjnbflhpboheiaaDoor
open Go.RowKit
set_option maxRecDepth 20000
set_option linter.unusedVariables false

/-- Keys that equality finds. -/
theorem KeyOk.asked {P : Program} {t : TypeId} {κ : Type} [DecidableEq κ] {enc : κ → Value} {fs : Array Field} (hd : P.underlying t = some (.struct fs)) (hc : ∀ (e : Bool) (k : κ) (w : World), (Instr.checkKey e 10000 t (enc k)).run P w = .ok () w)
    (heq : ∀ (a b : κ) (w : World), (Op.equal t (enc a) (enc b)).run P w = .ok (decide (a = b)) w) (hb : ∀ a, Instr.sameBits 10000 (enc a) (enc a) = true) : KeyOk P t enc := by
  refine ⟨hc, fun k es l he w => ?_, hb⟩
  have ask : ∀ (es : List MapEntry) (l : List (κ × Value)) (i : Nat), es.map (fun e => (e.key, e.val)) = l.map (fun p => (enc p.1, p.2)) → (Instr.findAsking t (enc k) es i).run P w = .ok ((l.findIdx? fun p => p.1 == k).bind fun j => (l[j]?).map fun p => (i + j, p.2)) w := by
    intro es
    induction es with
    | nil =>
      intro l i h
      cases l with
      | nil => simp [Instr.findAsking]
      | cons p l => simp at h
    | cons e es ih =>
      intro l i h
      cases l with
      | nil => simp at h
      | cons p l =>
        simp only [List.map_cons, List.cons.injEq, Prod.mk.injEq] at h
        obtain ⟨⟨h1, h2⟩, h3⟩ := h
        rw [Instr.findAsking, h1]
        simp only [Sem.run_bind, heq, Result.andThen]
        by_cases hk : k = p.1
        · subst hk
          simp [List.findIdx?_cons, h2]
        · have e1 : decide (k = p.1) = false := by simpa using hk
          have e2 : (p.1 == k) = false := by simpa using fun h => hk h.symm
          rw [e1]
          simp only [Bool.false_eq_true, if_false]
          rw [ih l (i + 1) h3, List.findIdx?_cons, e2]
          cases hf : l.findIdx? (fun p => p.1 == k) with
          | none => simp
          | some j => simp; congr; funext x; congr 1; omega
  unfold Instr.findKey
  simp only [Sem.run_bind, run_underlying hd, Result.andThen]
  cases es with
  | nil =>
    cases l with
    | nil => simp [Instr.findNow]
    | cons p l => simp at he
  | cons e es =>
    have hn : Instr.findNow (.struct fs) (enc k) (e :: es) 0 = none := by
      rw [Instr.findNow]
      simp [Instr.sameNow]
    rw [hn]
    have := ask (e :: es) l 0 he
    simp only [Nat.zero_add] at this
    exact this
abbrev skey (k : List UInt8 × Int) : Value := .agg #[.string ⟨k.1.toArray⟩, .int .i64 k.2]
theorem skey_check (e : Bool) (k : List UInt8 × Int) (w : World) : (Instr.checkKey e 10000 28 (skey k)).run Tryd.prog w = .ok () w := by
  kernel_rfl
theorem eq_two {P : Program} {t : TypeId} {f1 f2 : Field} {w : World} {xs ys : Array Value} {x1 x2 y1 y2 : Value} {b1 b2 : Bool} (ht : P.underlying t = some (.struct (P.fieldsOf t))) (hs : P.stoodInHeld t = false) (hf : (P.fieldsOf t).toList = [f1, f2]) (n1 : f1.name ≠ "_") (n2 : f2.name ≠ "_")
    (p1 : (part f1.type xs f1.offset).run P w = .ok x1 w) (q1 : (part f1.type ys f1.offset).run P w = .ok y1 w) (p2 : (part f2.type xs f2.offset).run P w = .ok x2 w) (q2 : (part f2.type ys f2.offset).run P w = .ok y2 w)
    (e1 : (Op.equalIn 9999 f1.type x1 y1).run P w = .ok b1 w) (e2 : (Op.equalIn 9999 f2.type x2 y2).run P w = .ok b2 w) : (Op.equal t (.agg xs) (.agg ys)).run P w = .ok (b1 && b2) w := by
  unfold Op.equal Op.maxDepth
  rw [show (10000 : Nat) = 9999 + 1 from rfl, run_equalIn_agg w 9999 t xs ys ht hs, hf]
  simp only [Op.eqFields, n1, n2, ne_eq, not_false_eq_true, if_true, Sem.run_bind, p1, q1, e1, Result.andThen_ok]
  cases b1 <;> cases b2 <;> simp [p2, q2, e2, Result.andThen]
theorem skey_eq (a b : List UInt8 × Int) (w : World) : (Op.equal 28 (skey a) (skey b)).run Tryd.prog w = .ok (decide (a = b)) w := by
  have h := eq_two (P := Tryd.prog) (t := 28) (f1 := (Tryd.prog.fieldsOf 28)[0]!) (f2 := (Tryd.prog.fieldsOf 28)[1]!) (w := w) (xs := #[.string ⟨a.1.toArray⟩, .int .i64 a.2]) (ys := #[.string ⟨b.1.toArray⟩, .int .i64 b.2])
    (x1 := .string ⟨a.1.toArray⟩) (y1 := .string ⟨b.1.toArray⟩) (x2 := .int .i64 a.2) (y2 := .int .i64 b.2) (b1 := a.1 == b.1) (b2 := a.2 == b.2) (by kernel_rfl) (by kernel_rfl) (by kernel_rfl) (by decide +kernel) (by decide +kernel) (by kernel_rfl) (by kernel_rfl) (by kernel_rfl) (by kernel_rfl)
    (by
      rw [run_equalIn_string w 9998 _ _ _ (by kernel_rfl)]
      rw [ByteArray.toList_eq, ByteArray.toList_eq])
    (run_equalIn_int w 9998 _ .i64 .i64 a.2 b.2 (by kernel_rfl))
  have e : (a.1 == b.1 && a.2 == b.2) = decide (a = b) := by
    rw [Bool.eq_iff_iff]
    simp [Prod.ext_iff]
  rw [e] at h
  exact h
theorem KeyOk.skey : KeyOk Tryd.prog 28 skey :=
  KeyOk.asked (fs := Tryd.prog.fieldsOf 28) (by kernel_rfl) skey_check skey_eq (fun a => by
    have e : ((ByteArray.mk a.1.toArray) == (ByteArray.mk a.1.toArray)) = true := by rw [bytes_beq]; exact beq_self_eq_true _
    simp [Instr.sameBits, e])
end Go.Proofs.YtjnbflhpboheiaaDoor
