/-
  WatchOnce: one desk with one watch (plain).
-/
import Derived.Test.YtjnbflhpboheiaaDoorAwk16
namespace Go.Proofs.YtjnbflhpboheiaaDoor
open Go.RowKit
set_option linter.unusedVariables false

/-- Does an effect match the watch? -/
def hitP (m : List UInt8 × Int) (e : Ef) : Prop := ∃ up, parentP e.path = some up ∧ 1 ≤ e.kind ∧ e.kind ≤ 3 ∧ (m.2 = 1 ∧ e.path = m.1 ∨ m.2 = 2 ∧ (e.kind ≠ 3 ∧ up = m.1 ∨ e.kind = 2 ∧ e.path = m.1))
theorem hit_fires (m : List UInt8 × Int) (e : Ef) : hitP m e ↔ m ∈ (fires e).map (·.1) := by
  obtain ⟨p, k⟩ := m
  unfold hitP fires
  cases h : parentP e.path with
  | none => simp
  | some up =>
    by_cases hk : e.kind < 1 ∨ 3 < e.kind
    · simp only [if_pos hk, List.map_nil, List.not_mem_nil, iff_false]
      rintro ⟨u, -, h1, h2, -⟩
      omega
    · simp only [if_neg hk]
      by_cases h3 : e.kind = 3
      · have h2 : ¬ e.kind = 2 := by omega
        simp only [if_pos h3, if_neg h2, List.append_nil, List.map_cons, List.map_nil, List.mem_singleton, Prod.mk.injEq, Option.some.injEq]
        constructor
        · rintro ⟨u, rfl, -, -, ⟨a, b⟩ | ⟨a, ⟨b, c⟩ | ⟨b, c⟩⟩⟩
          · exact ⟨b.symm, a⟩
          · exact absurd h3 b
          · omega
        · rintro ⟨a, b⟩
          exact ⟨up, rfl, by omega, by omega, .inl ⟨b, a.symm⟩⟩
      · by_cases h2 : e.kind = 2
        · simp only [if_neg h3, if_pos h2, List.map_cons, List.map_append, List.map_nil, List.mem_cons, List.mem_append, List.not_mem_nil, or_false, Prod.mk.injEq, Option.some.injEq]
          constructor
          · rintro ⟨u, rfl, -, -, ⟨a, b⟩ | ⟨a, ⟨b, c⟩ | ⟨b, c⟩⟩⟩
            · exact .inl ⟨b.symm, a⟩
            · exact .inr (.inl ⟨c.symm, a⟩)
            · exact .inr (.inr ⟨c.symm, a⟩)
          · rintro (⟨a, b⟩ | ⟨a, b⟩ | ⟨a, b⟩)
            · exact ⟨up, rfl, by omega, by omega, .inl ⟨b, a.symm⟩⟩
            · exact ⟨up, rfl, by omega, by omega, .inr ⟨b, .inl ⟨h3, a.symm⟩⟩⟩
            · exact ⟨up, rfl, by omega, by omega, .inr ⟨b, .inr ⟨h2, a.symm⟩⟩⟩
        · simp only [if_neg h3, if_neg h2, List.append_nil, List.map_cons, List.map_nil, List.mem_cons, List.not_mem_nil, or_false, Prod.mk.injEq, Option.some.injEq]
          constructor
          · rintro ⟨u, rfl, -, -, ⟨a, b⟩ | ⟨a, ⟨b, c⟩ | ⟨b, c⟩⟩⟩
            · exact .inl ⟨b.symm, a⟩
            · exact .inr ⟨c.symm, a⟩
            · exact absurd b h2
          · rintro (⟨a, b⟩ | ⟨a, b⟩)
            · exact ⟨up, rfl, by omega, by omega, .inl ⟨b, a.symm⟩⟩
            · exact ⟨up, rfl, by omega, by omega, .inr ⟨b, .inl ⟨h3, a.symm⟩⟩⟩
def waits (k m : List UInt8 × Int) : Da := ⟨k, [], 0, 0, [m]⟩
def gone (k m : List UInt8 × Int) (ek : Int) : Da := ⟨k, [⟨1, ek, m.1⟩], 0, 1, []⟩
theorem run_gone (k m : List UInt8 × Int) (ek : Int) : ∀ fs : List Fr, runF fs [gone k m ek] = [gone k m ek] ∧ cntF fs [gone k m ek] = 0
  | [] => ⟨rfl, rfl⟩
  | f :: fs => by
    have e : [gone k m ek].map (fireA f.1 f.2) = [gone k m ek] := by
      simp [fireA, gone]
    have h : hits f.1 [gone k m ek] = 0 := by simp [hits, hit, gone]
    obtain ⟨h1, h2⟩ := run_gone k m ek fs
    simp only [runF, cntF]
    rw [e, h, h2]
    exact ⟨h1, rfl⟩
theorem run_waits (k m : List UInt8 × Int) : ∀ fs : List Fr, (m ∉ fs.map (·.1) → runF fs [waits k m] = [waits k m] ∧ cntF fs [waits k m] = 0) ∧ (m ∈ fs.map (·.1) → (∃ ek, runF fs [waits k m] = [gone k m ek]) ∧ cntF fs [waits k m] = 1)
  | [] => ⟨fun _ => ⟨rfl, rfl⟩, fun h => by simp at h⟩
  | f :: fs => by
    obtain ⟨i1, i2⟩ := run_waits k m fs
    by_cases hf : f.1 = m
    · have e : [waits k m].map (fireA f.1 f.2) = [gone k m f.2] := by
        rw [hf]; simp [fireA, waits, gone, putA]
      have h : hits f.1 [waits k m] = 1 := by rw [hf]; simp [hits, hit, waits]
      refine ⟨fun q => absurd (by simp [hf]) q, fun _ => ?_⟩
      simp only [runF, cntF]
      rw [e, h, (run_gone k m f.2 fs).1, (run_gone k m f.2 fs).2]
      exact ⟨⟨_, rfl⟩, rfl⟩
    · have e : [waits k m].map (fireA f.1 f.2) = [waits k m] := by
        simp [fireA, waits, hf]
      have h : hits f.1 [waits k m] = 0 := by simp [hits, hit, waits, hf]
      simp only [runF, cntF]
      rw [e, h, Nat.zero_add]
      simp only [List.map_cons, List.mem_cons, not_or]
      exact ⟨fun q => i1 q.2, fun q => i2 (q.resolve_left (fun e => hf e.symm))⟩
/-- The one desk: waiting, or fired. -/
def OneA (k m : List UInt8 × Int) (fired : Bool) (A : List Da) : Prop := if fired then ∃ ek, A = [gone k m ek] else A = [waits k m]
theorem OneA.step {k m : List UInt8 × Int} {fired : Bool} {A : List Da} (h : OneA k m fired A) (e : Ef) (b : Bool) (hb : b = true ↔ hitP m e) : OneA k m (fired || b) (runF (fires e) A) ∧ cntF (fires e) A = if b && !fired then 1 else 0 := by
  cases fired with
  | true =>
    obtain ⟨ek, rfl⟩ : ∃ ek, A = [gone k m ek] := h
    rw [(run_gone k m ek _).1, (run_gone k m ek _).2]
    exact ⟨⟨ek, rfl⟩, by simp⟩
  | false =>
    have h' : A = [waits k m] := h
    subst h'
    cases b with
    | true =>
      obtain ⟨⟨ek, q1⟩, q2⟩ := (run_waits k m (fires e)).2 ((hit_fires m e).1 (hb.1 rfl))
      rw [q1, q2]
      exact ⟨⟨ek, rfl⟩, rfl⟩
    | false =>
      obtain ⟨q1, q2⟩ := (run_waits k m (fires e)).1 (fun q => by have := hb.2 ((hit_fires m e).2 q); cases this)
      rw [q1, q2]
      exact ⟨rfl, rfl⟩
theorem OneA.ok {k m : List UInt8 × Int} {fired : Bool} {A : List Da} (h : OneA k m fired A) : (∀ a ∈ A, a.Ok 1) ∧ A.length = 1 := by
  cases fired with
  | true =>
    obtain ⟨ek, rfl⟩ : ∃ ek, A = [gone k m ek] := h
    exact ⟨fun a ha => by rw [List.mem_singleton.1 ha]; exact ⟨by show (0 : Int) ≤ 1; decide, by simp [gone], by simp [gone]⟩, rfl⟩
  | false =>
    have h' : A = [waits k m] := h
    subst h'
    exact ⟨fun a ha => by rw [List.mem_singleton.1 ha]; exact ⟨Int.le_refl _, by simp [waits], by simp [waits]⟩, rfl⟩
theorem OneA.told {k m : List UInt8 × Int} {fired : Bool} {A : List Da} (h : OneA k m fired A) : marksA A k + (evsA A k).length = 1 ∧ (fired = true → ∃ ek, evsA A k = [⟨1, ek, m.1⟩]) ∧ (fired = false → evsA A k = []) := by
  cases fired with
  | true =>
    obtain ⟨ek, rfl⟩ : ∃ ek, A = [gone k m ek] := h
    refine ⟨by simp [marksA, evsA, seekA, gone], fun _ => ⟨ek, by simp [evsA, seekA, gone]⟩, (fun e => by cases e)⟩
  | false =>
    have h' : A = [waits k m] := h
    subst h'
    refine ⟨by simp [marksA, evsA, seekA, waits], (fun e => by cases e), fun _ => by simp [evsA, seekA, waits]⟩
/-- What a refused Add means. -/
theorem add_none (p : List UInt8) (kind : Int) (h : addE [] (homeP p, 3) (p, kind) ≠ 0) : (parts p).isSome = false ∨ homeP p = [] ∨ (kind ≠ 1 ∧ kind ≠ 2) := by
  by_cases h1 : kind ≠ 1 ∧ kind ≠ 2
  · exact .inr (.inr h1)
  · cases hp : parts p with
    | none => exact .inl rfl
    | some ls =>
      refine .inr (.inl ?_)
      have he : homeP p = ls.headD [] := by unfold homeP; rw [hp]
      cases ls with
      | nil => rw [he]; rfl
      | cons s ls =>
        exfalso
        have hn : nameOk s = true := by
          exact (parts_some hp).1 s (List.mem_cons_self ..)
        refine h ?_
        unfold addE
        have hc : checkP (homeP p, 3) (p, kind) = 0 := by
          unfold checkP
          rw [if_neg h1, hp]
          simp [he, hn]
        rw [if_pos hc]; rfl
theorem add_ok (p : List UInt8) (kind : Int) (h : addE [] (homeP p, 3) (p, kind) = 0) : OneA (homeP p, 3) (p, kind) false (addA [] (homeP p, 3) (p, kind)) ∧ (kind = 1 ∨ kind = 2) := by
  refine ⟨?_, ?_⟩
  · show addA [] _ _ = [waits _ _]
    unfold addA
    rw [if_pos h]
    simp [seekA, withM, newDa, waits]
  · apply Classical.byContradiction
    intro hk
    unfold addE at h
    have hc : checkP (homeP p, 3) (p, kind) = 160 := by
      unfold checkP
      rw [if_pos (by simpa using hk)]
    rw [hc] at h
    simp at h
end Go.Proofs.YtjnbflhpboheiaaDoor
