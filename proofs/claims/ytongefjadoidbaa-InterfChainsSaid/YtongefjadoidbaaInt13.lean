/-
  Interf, plain: texts put into order one by one.
-/
import Derived.Test.YtongefjadoidbaaInt12
import Derived.Sort.Walk0
namespace Go.Proofs.Ytongefjadoidbaa
open Go.RowKit
set_option maxRecDepth 20000
set_option linter.unusedVariables false

def insStep (h : List UInt8) (s : List (List UInt8) × Bool) (o : List UInt8) : List (List UInt8) × Bool :=
  if (o == h) = true then (s.1 ++ [o], true) else if s.2 = true then (s.1 ++ [o], true) else if Op.bytesLess h o = true then (s.1 ++ [h] ++ [o], true) else (s.1 ++ [o], false)
def insFin (h : List UInt8) (s : List (List UInt8) × Bool) : List (List UInt8) := if s.2 = true then s.1 else s.1 ++ [h]
def insB (h : List UInt8) (out : List (List UInt8)) : List (List UInt8) := insFin h (out.foldl (insStep h) ([], false))
def insU (h : List UInt8) : List (List UInt8) → List (List UInt8)
  | [] => [h]
  | o :: t => if (o == h) = true then o :: t else if Op.bytesLess h o = true then h :: o :: t else o :: insU h t
theorem ins_true (h : List UInt8) : ∀ (out acc : List (List UInt8)), out.foldl (insStep h) (acc, true) = (acc ++ out, true)
  | [], acc => by simp
  | o :: t, acc => by
    rw [List.foldl_cons, show insStep h (acc, true) o = (acc ++ [o], true) by unfold insStep; simp, ins_true h t]; simp
theorem ins_eq (h : List UInt8) : ∀ (out acc : List (List UInt8)), insFin h (out.foldl (insStep h) (acc, false)) = acc ++ insU h out
  | [], acc => rfl
  | o :: t, acc => by
    rw [List.foldl_cons]
    unfold insU
    by_cases e : (o == h) = true
    · rw [show insStep h (acc, false) o = (acc ++ [o], true) by unfold insStep; rw [if_pos e], ins_true, if_pos e]; simp [insFin]
    · rw [if_neg e]
      by_cases f : Op.bytesLess h o = true
      · rw [show insStep h (acc, false) o = (acc ++ [h] ++ [o], true) by unfold insStep; rw [if_neg e, if_pos f]; rfl, ins_true, if_pos f]; simp [insFin]
      · rw [show insStep h (acc, false) o = (acc ++ [o], false) by unfold insStep; rw [if_neg e, if_neg f]; rfl, ins_eq h t, if_neg f]; simp
theorem insB_eq (h : List UInt8) (out : List (List UInt8)) : insB h out = insU h out := by unfold insB; rw [ins_eq]; rfl
theorem insU_mem (h : List UInt8) : ∀ (out : List (List UInt8)) (x : List UInt8), x ∈ insU h out ↔ x = h ∨ x ∈ out
  | [], x => by simp [insU]
  | o :: t, x => by
    unfold insU
    by_cases e : (o == h) = true
    · rw [if_pos e]
      rw [beq_iff_eq] at e
      subst e
      simp only [List.mem_cons]; constructor
      · intro h; exact .inr h
      · rintro (h | h); exact .inl h; exact h
    · rw [if_neg e]
      by_cases f : Op.bytesLess h o = true
      · rw [if_pos f]; simp
      · rw [if_neg f, List.mem_cons, insU_mem h t, List.mem_cons]
        constructor
        · rintro (a | a | a)
          · exact .inr (.inl a)
          · exact .inl a
          · exact .inr (.inr a)
        · rintro (a | a | a)
          · exact .inr (.inl a)
          · exact .inl a
          · exact .inr (.inr a)
theorem insU_sorted (h : List UInt8) : ∀ (out : List (List UInt8)), out.Pairwise (· < ·) → (insU h out).Pairwise (· < ·)
  | [], _ => by simp [insU]
  | o :: t, hs => by
    obtain ⟨h1, h2⟩ := List.pairwise_cons.1 hs
    unfold insU
    by_cases e : (o == h) = true
    · rw [if_pos e]; exact hs
    · rw [if_neg e]
      by_cases f : Op.bytesLess h o = true
      · rw [if_pos f]
        rw [bytesLess_eq, decide_eq_true_iff] at f
        refine List.pairwise_cons.2 ⟨fun x hx => ?_, hs⟩
        rcases List.mem_cons.1 hx with rfl | hx
        · exact f
        · exact List.lt_trans f (h1 x hx)
      · rw [if_neg f]
        refine List.pairwise_cons.2 ⟨fun x hx => ?_, insU_sorted h t h2⟩
        rcases (insU_mem h t x).1 hx with rfl | hx
        · rw [bytesLess_eq, decide_eq_true_iff] at f
          rw [beq_iff_eq] at e
          rcases List.le_total o x with g | g
          · rcases Decidable.em (o < x) with q | q
            · exact q
            · exact absurd (List.le_antisymm g (List.not_lt.1 q)) e
          · rcases Decidable.em (x < o) with q | q
            · exact absurd q f
            · exact absurd (List.le_antisymm (List.not_lt.1 q) g) e
        · exact h1 x hx
theorem ins_len (h : List UInt8) : ∀ (out : List (List UInt8)) (s : List (List UInt8) × Bool), (out.foldl (insStep h) s).1.length ≤ s.1.length + out.length + (if s.2 = true then 0 else 1)
  | [], s => by simp
  | o :: t, s => by
    rw [List.foldl_cons]
    have := ins_len h t (insStep h s o)
    unfold insStep at this ⊢
    split at this
    · rename_i c; rw [if_pos c]; simp at this ⊢; omega
    · rename_i c
      rw [if_neg c]
      split at this
      · rename_i c2; rw [if_pos c2]; simp at this ⊢; omega
      · rename_i c2
        rw [if_neg c2, if_neg c2]
        split at this
        · rename_i c3; rw [if_pos c3]; simp at this ⊢; omega
        · rename_i c3; rw [if_neg c3]; simp at this ⊢; omega
theorem insU_len (h : List UInt8) : ∀ (out : List (List UInt8)), (insU h out).length ≤ out.length + 1
  | [] => by simp [insU]
  | o :: t => by
    have := insU_len h t
    unfold insU
    split
    · simp
    · split <;> simp <;> omega
/-- The homes, as the document finds them. -/
def homeStep (out : List (List UInt8)) (i : It) : List (List UInt8) := if i.kind = 1 then insB i.home out else out
def homesD (L : List It) : List (List UInt8) := L.foldl homeStep []
theorem homesD_succ (L : List It) {j : Nat} (hj : j < L.length) : homesD (L.take (j + 1)) = homeStep (homesD (L.take j)) L[j] := by
  unfold homesD
  rw [List.take_succ_eq_append_getElem hj, List.foldl_append]; rfl
theorem homes_fold : ∀ (L : List It) (out : List (List UInt8)), out.Pairwise (· < ·) → (L.foldl homeStep out).Pairwise (· < ·) ∧ ∀ x, x ∈ L.foldl homeStep out ↔ x ∈ out ∨ ∃ i ∈ L, i.kind = 1 ∧ i.home = x
  | [], out, h => ⟨h, by simp⟩
  | i :: L, out, h => by
    rw [List.foldl_cons]
    have hstep : (homeStep out i).Pairwise (· < ·) := by
      unfold homeStep; split
      · rw [insB_eq]; exact insU_sorted _ _ h
      · exact h
    obtain ⟨h1, h2⟩ := homes_fold L _ hstep
    refine ⟨h1, fun x => ?_⟩
    rw [h2 x]
    unfold homeStep
    by_cases hk : i.kind = 1
    · rw [if_pos hk, insB_eq, insU_mem]
      constructor
      · rintro ((rfl | a) | ⟨q, hq, r⟩)
        · exact .inr ⟨i, List.mem_cons_self .., hk, rfl⟩
        · exact .inl a
        · exact .inr ⟨q, List.mem_cons_of_mem _ hq, r⟩
      · rintro (a | ⟨q, hq, r1, r2⟩)
        · exact .inl (.inr a)
        · rcases List.mem_cons.1 hq with rfl | hq
          · exact .inl (.inl r2.symm)
          · exact .inr ⟨q, hq, r1, r2⟩
    · rw [if_neg hk]
      constructor
      · rintro (a | ⟨q, hq, r⟩)
        · exact .inl a
        · exact .inr ⟨q, List.mem_cons_of_mem _ hq, r⟩
      · rintro (a | ⟨q, hq, r1, r2⟩)
        · exact .inl a
        · rcases List.mem_cons.1 hq with rfl | hq
          · exact absurd r1 hk
          · exact .inr ⟨q, hq, r1, r2⟩
theorem homesD_len (L : List It) : (homesD L).length ≤ L.length := by
  have : ∀ (L : List It) (out : List (List UInt8)), (L.foldl homeStep out).length ≤ out.length + L.length := by
    intro L
    induction L with
    | nil => intro out; simp
    | cons i L ih =>
      intro out
      rw [List.foldl_cons]
      have h1 := ih (homeStep out i)
      have h2 : (homeStep out i).length ≤ out.length + 1 := by
        unfold homeStep; split
        · rw [insB_eq]; exact insU_len _ _
        · omega
      simp only [List.length_cons]; omega
  have := this L []
  unfold homesD
  simpa using this
/-- They are the keys in order. -/
theorem homes_sorted {L : List It} {keys : List (List UInt8)} (hn : keys.Nodup) (hk : ∀ x, x ∈ keys ↔ ∃ i ∈ L, i.kind = 1 ∧ i.home = x) : homesD L = sortL keys := by
  obtain ⟨h1, h2⟩ := homes_fold L [] List.Pairwise.nil
  have hnd : (homesD L).Nodup := h1.imp fun {a b} hab e => by rw [e] at hab; exact absurd hab (List.lt_irrefl _)
  have hp : (homesD L).Perm keys := (List.perm_ext_iff_of_nodup hnd hn).2 fun x => by
    rw [hk x]
    show x ∈ L.foldl homeStep [] ↔ _
    rw [h2 x]; simp
  have tr : ∀ a b c : List UInt8, leB a b = true → leB b c = true → leB a c = true := fun a b c h1 h2 => by simp only [leB, decide_eq_true_eq] at *; exact List.le_trans h1 h2
  have tot : ∀ a b : List UInt8, (leB a b || leB b a) = true := fun a b => by simp only [leB, Bool.or_eq_true, decide_eq_true_eq]; exact List.le_total a b
  refine List.Perm.eq_of_pairwise (le := fun a b => leB a b = true) (fun a b _ _ h1 h2 => ?_) (h1.imp fun {a b} hab => ?_) (List.pairwise_mergeSort tr tot keys) (hp.trans (List.mergeSort_perm keys leB).symm)
  · simp only [leB, decide_eq_true_eq] at h1 h2
    exact List.le_antisymm h1 h2
  · simp only [leB, decide_eq_true_eq]
    exact List.le_of_lt hab
end Go.Proofs.Ytongefjadoidbaa
