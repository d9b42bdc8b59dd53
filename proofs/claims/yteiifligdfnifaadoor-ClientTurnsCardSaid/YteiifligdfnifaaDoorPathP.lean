/-
  Names and paths, as plain functions over lists of bytes, and what holds of them.
-/
import Derived.Test.YteiifligdfnifaaDoorBase
namespace Go.Proofs.YteiifligdfnifaaDoor

/-- May a name have this byte? -/
def chOk (c : UInt8) : Bool := decide ((97 ≤ c.toNat ∧ c.toNat ≤ 122) ∨ (48 ≤ c.toNat ∧ c.toNat ≤ 57) ∨ c.toNat = 46 ∨ c.toNat = 95 ∨ c.toNat = 45)
/-- Is it a name? -/
def nameOk (s : List UInt8) : Bool := decide (1 ≤ s.length ∧ s.length ≤ 32) && !(s == [46]) && !(s == [46, 46]) && s.all chOk
/-- Cut at each '/'. -/
def cutS : List UInt8 → List (List UInt8)
  | [] => [[]]
  | c :: l => if c = 47 then [] :: cutS l else match cutS l with | [] => [[c]] | h :: t => (c :: h) :: t
/-- Names as a path. -/
def mkS (ls : List (List UInt8)) : List UInt8 := ls.flatMap fun s => 47 :: s
def makeS (ls : List (List UInt8)) : List UInt8 := if ls = [] then [47] else mkS ls
/-- The names of a path. -/
def parts (p : List UInt8) : Option (List (List UInt8)) :=
  if p = [47] then some [] else
  if p.length > 128 ∨ p.head? ≠ some 47 then none else
  if (cutS p.tail).length > 8 then none else
  if (cutS p.tail).all nameOk then some (cutS p.tail) else none

theorem cutS_ne (l : List UInt8) : cutS l ≠ [] := by
  cases l with
  | nil => simp [cutS]
  | cons c l =>
    unfold cutS
    split
    · simp
    · split <;> simp
theorem cutS_sep (l : List UInt8) : cutS (47 :: l) = [] :: cutS l := by rw [cutS, if_pos rfl]
theorem cutS_cons {c : UInt8} (h : c ≠ 47) (l : List UInt8) : ∃ a t, cutS l = a :: t ∧ cutS (c :: l) = (c :: a) :: t := by
  have hne := cutS_ne l
  rw [cutS, if_neg h]
  cases e : cutS l with
  | nil => exact absurd e hne
  | cons a t => exact ⟨a, t, rfl, rfl⟩
theorem cutS_piece : ∀ (a : List UInt8) (b : List UInt8), (47 : UInt8) ∉ a → cutS (a ++ 47 :: b) = a :: cutS b
  | [], b, _ => cutS_sep b
  | c :: a, b, h => by
    have h1 : c ≠ 47 := fun e => h (by simp [e])
    have h2 := cutS_piece a b (fun e => h (by simp [e]))
    obtain ⟨x, t, e1, e2⟩ := cutS_cons h1 (a ++ 47 :: b)
    rw [List.cons_append, e2]
    rw [h2] at e1
    simp only [List.cons.injEq] at e1
    rw [← e1.1, ← e1.2]
theorem cutS_last : ∀ (a : List UInt8), (47 : UInt8) ∉ a → cutS a = [a]
  | [], _ => rfl
  | c :: a, h => by
    have h1 : c ≠ 47 := fun e => h (by simp [e])
    have h2 := cutS_last a (fun e => h (by simp [e]))
    obtain ⟨x, t, e1, e2⟩ := cutS_cons h1 a
    rw [e2]
    rw [h2] at e1
    simp only [List.cons.injEq] at e1
    rw [← e1.1, ← e1.2]
theorem cutS_append : ∀ (a b : List UInt8), cutS (a ++ 47 :: b) = cutS a ++ cutS b
  | [], b => by rw [List.nil_append, cutS_sep]; rfl
  | c :: a, b => by
    by_cases h1 : c = 47
    · subst h1
      rw [List.cons_append, cutS_sep, cutS_append a b, cutS_sep]; rfl
    · obtain ⟨x, t, e1, e2⟩ := cutS_cons h1 (a ++ 47 :: b)
      obtain ⟨y, u, e3, e4⟩ := cutS_cons h1 a
      rw [List.cons_append, e2, e4]
      rw [cutS_append a b, e3, List.cons_append] at e1
      simp only [List.cons.injEq] at e1
      rw [← e1.1, ← e1.2]; rfl
theorem mk_cut : ∀ l : List UInt8, mkS (cutS l) = 47 :: l
  | [] => rfl
  | c :: l => by
    have h := mk_cut l
    by_cases h1 : c = 47
    · subst h1
      rw [cutS_sep]
      show 47 :: ([] ++ mkS (cutS l)) = _
      rw [List.nil_append, h]
    · obtain ⟨x, t, e1, e2⟩ := cutS_cons h1 l
      rw [e2]
      rw [e1] at h
      have h' : 47 :: (x ++ mkS t) = 47 :: l := h
      show 47 :: (c :: x ++ mkS t) = _
      simp only [List.cons.injEq, true_and] at h'
      rw [List.cons_append, h']
theorem name_nosep {s : List UInt8} (h : nameOk s = true) : (47 : UInt8) ∉ s := by
  intro hm
  unfold nameOk at h
  simp only [Bool.and_eq_true] at h
  have := List.all_eq_true.1 h.2 47 hm
  exact absurd this (by decide)
theorem name_ne {s : List UInt8} (h : nameOk s = true) : s ≠ [] := by
  intro e; subst e; exact absurd h (by decide)
theorem name_len {s : List UInt8} (h : nameOk s = true) : 1 ≤ s.length ∧ s.length ≤ 32 := by
  unfold nameOk at h
  simp only [Bool.and_eq_true, decide_eq_true_eq] at h
  exact h.1.1.1
theorem cut_mk : ∀ (ls : List (List UInt8)), ls ≠ [] → (∀ s ∈ ls, (47 : UInt8) ∉ s) → cutS (mkS ls).tail = ls
  | [], h, _ => absurd rfl h
  | [a], _, h => by
    show cutS (a ++ []) = _
    rw [List.append_nil]; exact cutS_last a (h a (by simp))
  | a :: b :: ls, _, h => by
    show cutS (a ++ mkS (b :: ls)) = _
    have : mkS (b :: ls) = 47 :: (mkS (b :: ls)).tail := rfl
    rw [this, cutS_piece a _ (h a (by simp)), cut_mk (b :: ls) (by simp) (fun s hs => h s (by simp [hs]))]
theorem mk_append (a b : List (List UInt8)) : mkS (a ++ b) = mkS a ++ mkS b := by unfold mkS; rw [List.flatMap_append]
theorem mk_head {ls : List (List UInt8)} (h : ls ≠ []) : (mkS ls).head? = some 47 := by
  cases ls with
  | nil => exact absurd rfl h
  | cons a l => rfl
theorem mk_ne_one {ls : List (List UInt8)} (h : ∀ s ∈ ls, nameOk s = true) : mkS ls ≠ [47] := by
  cases ls with
  | nil => simp [mkS]
  | cons a l =>
    intro e
    have e' : 47 :: (a ++ mkS l) = [47] := e
    simp only [List.cons.injEq, true_and, List.append_eq_nil_iff] at e'
    exact name_ne (h a (by simp)) e'.1

/-- What the names of a path are. -/
theorem parts_some {p : List UInt8} {ls : List (List UInt8)} (h : parts p = some ls) : (∀ s ∈ ls, nameOk s = true) ∧ p = makeS ls ∧ ls.length ≤ 8 ∧ p.length ≤ 128 ∧ (ls = [] ↔ p = [47]) := by
  unfold parts at h
  split at h
  · rename_i e
    simp only [Option.some.injEq] at h
    subst h
    exact ⟨by simp, by rw [e]; rfl, by simp, by rw [e]; simp, by simp [e]⟩
  · rename_i e
    split at h
    · cases h
    · rename_i g
      split at h
      · cases h
      · rename_i k
        split at h
        · rename_i a
          simp only [Option.some.injEq] at h
          subst h
          have hne := cutS_ne p.tail
          have hp : p = 47 :: p.tail := by
            cases p with
            | nil => simp at g
            | cons c l => simp at g; simp [g.2]
          refine ⟨fun s hs => List.all_eq_true.1 a s hs, ?_, by omega, by omega, ?_⟩
          · unfold makeS; rw [if_neg hne, mk_cut]; exact hp
          · simp [hne, e]
        · cases h
/-- Names that make a path. -/
theorem parts_make {ls : List (List UInt8)} (h : ∀ s ∈ ls, nameOk s = true) : parts (makeS ls) = if ls.length > 8 ∨ (makeS ls).length > 128 then none else some ls := by
  unfold makeS
  by_cases hl : ls = []
  · subst hl; rfl
  · rw [if_neg hl]
    unfold parts
    rw [if_neg (mk_ne_one h), cut_mk ls hl (fun s hs => name_nosep (h s hs)), mk_head hl]
    by_cases h1 : (mkS ls).length > 128
    · rw [if_pos (.inl h1), if_pos (.inr h1)]
    · rw [if_neg (by simp; omega)]
      by_cases h2 : ls.length > 8
      · rw [if_pos h2, if_pos (.inl h2)]
      · rw [if_neg h2, if_pos (List.all_eq_true.2 h), if_neg (by omega)]
theorem make_inj {a b : List (List UInt8)} (ha : ∀ s ∈ a, nameOk s = true) (hb : ∀ s ∈ b, nameOk s = true) (h : makeS a = makeS b) : a = b := by
  unfold makeS at h
  by_cases h1 : a = [] <;> by_cases h2 : b = []
  · rw [h1, h2]
  · rw [if_pos h1, if_neg h2] at h; exact absurd h.symm (mk_ne_one hb)
  · rw [if_neg h1, if_pos h2] at h; exact absurd h (mk_ne_one ha)
  · rw [if_neg h1, if_neg h2] at h
    rw [← cut_mk a h1 (fun s hs => name_nosep (ha s hs)), h, cut_mk b h2 (fun s hs => name_nosep (hb s hs))]

/-- One path under another one: by texts, and by names. -/
theorem under_iff {p q : List UInt8} {a b : List (List UInt8)} (hp : parts p = some a) (hq : parts q = some b) : (p = [47] ∨ q = p ∨ (p ++ [47]) <+: q) ↔ a <+: b := by
  obtain ⟨na, ea, -, -, ra⟩ := parts_some hp
  obtain ⟨nb, eb, -, -, rb⟩ := parts_some hq
  constructor
  · rintro (h | h | ⟨r, h⟩)
    · rw [← ra] at h; subst h; exact List.nil_prefix
    · subst h; rw [hp] at hq; rw [Option.some.inj hq]; exact List.prefix_refl _
    · by_cases ha : a = []
      · subst ha; exact List.nil_prefix
      · have ep : p = mkS a := by rw [ea, makeS, if_neg ha]
        have hpt : p = 47 :: p.tail := by rw [ep]; cases a with | nil => exact absurd rfl ha | cons x y => rfl
        have hb : b ≠ [] := by
          intro e
          rw [rb] at e
          rw [e, hpt] at h
          simp at h
        have eq : q = mkS b := by rw [eb, makeS, if_neg hb]
        have hqt : q.tail = p.tail ++ 47 :: r := by
          rw [← h, hpt]; simp
        have e1 := cut_mk b hb (fun s hs => name_nosep (nb s hs))
        have e2 := cut_mk a ha (fun s hs => name_nosep (na s hs))
        rw [← eq, hqt, cutS_append, ep, e2] at e1
        exact ⟨cutS r, e1⟩
  · rintro ⟨c, rfl⟩
    by_cases ha : a = []
    · left; exact ra.1 ha
    · right
      have ep : p = mkS a := by rw [ea, makeS, if_neg ha]
      have eq : q = mkS a ++ mkS c := by rw [eb, makeS, if_neg (by simp [ha]), mk_append]
      cases c with
      | nil => left; rw [eq, ep]; simp [mkS]
      | cons x y =>
        right
        exact ⟨x ++ mkS y, by rw [eq, ep]; simp [mkS]⟩

/-- The last name, and what stands ahead. -/
theorem parts_split {p : List UInt8} {ls : List (List UInt8)} (h : parts p = some ls) (hne : ls ≠ []) : ∃ i b, ls = i ++ [b] ∧ p = mkS i ++ 47 :: b ∧ (47 : UInt8) ∉ b ∧ nameOk b = true ∧ makeS i = p.take (max 1 (mkS i).length) ∧ b = p.drop ((mkS i).length + 1) := by
  obtain ⟨na, ea, -, -, ra⟩ := parts_some h
  obtain ⟨i, b, rfl⟩ : ∃ i b, ls = i ++ [b] := ⟨ls.dropLast, ls.getLast hne, (List.dropLast_concat_getLast hne).symm⟩
  have hb := na b (by simp)
  have ep : p = mkS i ++ 47 :: b := by rw [ea, makeS, if_neg hne, mk_append]; simp [mkS]
  refine ⟨i, b, rfl, ep, name_nosep hb, hb, ?_, ?_⟩
  · unfold makeS
    by_cases hi : i = []
    · subst hi; rw [ep]; rfl
    · rw [if_neg hi, ep]
      have hl : 1 ≤ (mkS i).length := by
        cases i with
        | nil => exact absurd rfl hi
        | cons x y => simp [mkS]
      rw [Nat.max_eq_right hl, List.take_left' rfl]
  · rw [ep, ← List.drop_drop, List.drop_left' rfl]; rfl
end Go.Proofs.YteiifligdfnifaaDoor
