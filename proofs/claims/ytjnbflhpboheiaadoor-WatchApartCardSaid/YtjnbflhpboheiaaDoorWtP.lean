/-
  A hub: what effects fire, what Add does (plain).
-/
import Derived.Test.YtjnbflhpboheiaaDoorWt3
import Derived.Test.YtjnbflhpboheiaaDoorPathW3
namespace Go.Proofs.YtjnbflhpboheiaaDoor
open Go.RowKit
set_option linter.unusedVariables false

/-- An effect. -/
structure Ef where
  kind : Int
  path : List UInt8
def efC (e : Ef) : List Value := [.int .i64 e.kind, tkey e.path]
abbrev Fr := (List UInt8 × Int) × Int
/-- What an effect fires. -/
def fires (e : Ef) : List Fr :=
  match parentP e.path with
  | none => []
  | some up => if e.kind < 1 ∨ 3 < e.kind then [] else ((e.path, 1), e.kind) :: ((if e.kind = 3 then [] else [((up, 2), 4)]) ++ (if e.kind = 2 then [((e.path, 2), 4)] else []))
def runF : List Fr → List Da → List Da
  | [], A => A
  | f :: fs, A => runF fs (A.map (fireA f.1 f.2))
def cntF : List Fr → List Da → Nat
  | [], _ => 0
  | f :: fs, A => hits f.1 A + cntF fs (A.map (fireA f.1 f.2))
theorem runF_app : ∀ (a b : List Fr) (A : List Da), runF (a ++ b) A = runF b (runF a A)
  | [], _, _ => rfl
  | f :: a, b, A => runF_app a b _
theorem cntF_app : ∀ (a b : List Fr) (A : List Da), cntF (a ++ b) A = cntF a A + cntF b (runF a A)
  | [], _, _ => by simp [cntF, runF]
  | f :: a, b, A => by
    have := cntF_app a b (A.map (fireA f.1 f.2))
    simp only [List.cons_append, cntF, runF]
    rw [this]; omega
/-- A desk's numbers are small. -/
structure Da.Ok (N : Int) (a : Da) : Prop where
  lo : 0 ≤ a.last
  hi : a.last + a.marks.length ≤ N
  few : a.ev.length + a.marks.length ≤ 32
theorem filter_less {α : Type} [DecidableEq α] {l : List α} {m : α} (h : m ∈ l) : (l.filter fun x => decide (x ≠ m)).length + 1 ≤ l.length := by
  have h1 : (l.filter fun x => decide (x ≠ m)).length < l.length := by
    refine List.length_filter_lt_length_iff_exists.2 ⟨m, h, by simp⟩
  omega
theorem Da.Ok.fire {N : Int} {a : Da} (h : a.Ok N) (m : List UInt8 × Int) (kind : Int) : (fireA m kind a).Ok N := by
  obtain ⟨h1, h2, h3⟩ := h
  unfold fireA
  split
  · rename_i hm
    have := filter_less hm
    refine ⟨?_, ?_, ?_⟩
    · show 0 ≤ a.last + 1; omega
    · show a.last + 1 + ((a.marks.filter fun x => decide (x ≠ m)).length : Nat) ≤ N; omega
    · show (a.ev ++ [_]).length + (a.marks.filter fun x => decide (x ≠ m)).length ≤ 32
      rw [List.length_append]; simp only [List.length_cons, List.length_nil]; omega
  · exact ⟨h1, h2, h3⟩
theorem ok_map {N : Int} {A : List Da} (h : ∀ a ∈ A, a.Ok N) (m : List UInt8 × Int) (kind : Int) : ∀ a ∈ A.map (fireA m kind), a.Ok N := fun a ha => by
  obtain ⟨b, hb, rfl⟩ := List.mem_map.1 ha
  exact (h b hb).fire m kind
theorem ok_run {N : Int} : ∀ (fs : List Fr) {A : List Da}, (∀ a ∈ A, a.Ok N) → ∀ a ∈ runF fs A, a.Ok N
  | [], _, h => h
  | f :: fs, _, h => ok_run fs (ok_map h f.1 f.2)
theorem runF_length : ∀ (fs : List Fr) (A : List Da), (runF fs A).length = A.length
  | [], _ => rfl
  | f :: fs, A => (runF_length fs _).trans (List.length_map _)
def msum (A : List Da) : Nat := (A.map fun a => a.marks.length).sum
theorem msum_fire (m : List UInt8 × Int) (kind : Int) : ∀ A : List Da, hits m A + msum (A.map (fireA m kind)) ≤ msum A
  | [] => Nat.le_refl _
  | a :: A => by
    have ih := msum_fire m kind A
    unfold hits msum at *
    simp only [List.map_cons, List.sum_cons]
    have : hit m a + (fireA m kind a).marks.length ≤ a.marks.length := by
      unfold hit fireA
      split
      · rename_i hm
        have := filter_less hm
        show 1 + (a.marks.filter fun x => decide (x ≠ m)).length ≤ _
        omega
      · omega
    omega
theorem cntF_le : ∀ (fs : List Fr) (A : List Da), cntF fs A + msum (runF fs A) ≤ msum A
  | [], A => by simp [cntF, runF]
  | f :: fs, A => by
    have h1 := cntF_le fs (A.map (fireA f.1 f.2))
    have h2 := msum_fire f.1 f.2 A
    simp only [cntF, runF]; omega
theorem msum_le {N : Int} : ∀ {A : List Da}, (∀ a ∈ A, a.Ok N) → msum A ≤ 32 * A.length
  | [], _ => Nat.le_refl _
  | a :: A, h => by
    have ih := msum_le (A := A) (fun b hb => h b (List.mem_cons_of_mem _ hb))
    have := (h a (List.mem_cons_self ..)).few
    unfold msum at *
    simp only [List.map_cons, List.sum_cons, List.length_cons]
    omega
/-- What Add says of a key and a watch. -/
def checkP (k m : List UInt8 × Int) : Int :=
  if m.2 ≠ 1 ∧ m.2 ≠ 2 then 160 else if (parts m.1).isNone then 20 else if homeP m.1 ≠ k.1 ∨ nameOk k.1 = false ∨ k.2 < 1 ∨ 4611686018427387903 < k.2 then 82 else 0
def seekD (D : List Dk) (k : List UInt8 × Int) : Option Dk := D.find? fun d => decide (d.a.key = k)
def seekA (A : List Da) (k : List UInt8 × Int) : Option Da := A.find? fun d => decide (d.key = k)
theorem seekD_some {D : List Dk} {k : List UInt8 × Int} {d : Dk} (h : seekD D k = some d) : d ∈ D ∧ d.a.key = k := ⟨List.mem_of_find?_eq_some h, by have := List.find?_some h; simpa using this⟩
theorem seekD_none {D : List Dk} {k : List UInt8 × Int} (h : seekD D k = none) : ∀ d ∈ D, d.a.key ≠ k := fun d hd e => by
  have := List.find?_eq_none.1 h d hd; simp [e] at this
theorem seekD_abs (D : List Dk) (k : List UInt8 × Int) : seekA (absD D) k = (seekD D k).map Dk.a := by
  unfold seekA seekD absD
  rw [List.find?_map]; rfl
theorem look_seekD (D : List Dk) (k : List UInt8 × Int) : look (D.map dEnt) k = (seekD D k).map fun d => .pointer (some ⟨d.db, 0, none⟩) := by
  unfold look seekD
  rw [List.find?_map, Option.map_map]
  have e : ((fun p : (List UInt8 × Int) × Value => @BEq.beq _ instBEqOfDecidableEq p.1 k) ∘ dEnt) = fun d : Dk => decide (d.a.key = k) := by
    funext d; rfl
  rw [e]; rfl
end Go.Proofs.YtjnbflhpboheiaaDoor
