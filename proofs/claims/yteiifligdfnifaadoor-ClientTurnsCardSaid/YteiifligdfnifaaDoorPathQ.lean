/-
  The library's strings.Split at "/", and its last '/', as the plain functions of names and paths have them.
-/
import Derived.Test.YteiifligdfnifaaDoorPathP
import Derived.Lib.SplitLaws
import Derived.Lib.IndexBytes
import Derived.Lib.LastIndexByte
namespace Go.Proofs.YteiifligdfnifaaDoor

/-- The bytes of a text. -/
abbrev bl (s : ByteArray) : List UInt8 := s.data.toList

theorem indexByte_spec : ∀ (l : List UInt8) (c : UInt8), (Lib.indexByte l c = -1 ∧ c ∉ l) ∨ ∃ a b, l = a ++ c :: b ∧ c ∉ a ∧ Lib.indexByte l c = a.length
  | [], c => .inl ⟨rfl, by simp⟩
  | x :: l, c => by
    unfold Lib.indexByte
    by_cases h : x = c
    · subst h
      exact .inr ⟨[], l, rfl, by simp, by simp⟩
    · rw [if_neg (by simpa using h)]
      rcases indexByte_spec l c with ⟨e, hn⟩ | ⟨a, b, e, hn, hi⟩
      · rw [if_pos (by simp [e])]
        exact .inl ⟨rfl, by simp [hn, Ne.symm h]⟩
      · rw [if_neg (by rw [hi]; simp)]
        exact .inr ⟨x :: a, b, by rw [e]; rfl, by simp [hn, Ne.symm h], by rw [hi]; simp⟩

theorem splitK_cut : ∀ (n : Nat) (l : List UInt8), l.length ≤ n → Lib.splitK [47] 0 (l.count 47) l = cutS l
  | 0, l, h => by
    have : l = [] := List.eq_nil_of_length_eq_zero (by omega)
    subst this; rfl
  | n + 1, l, h => by
    rcases indexByte_spec l 47 with ⟨e, hn⟩ | ⟨a, b, e, hn, hi⟩
    · rw [List.count_eq_zero.2 hn, cutS_last l hn]; rfl
    · have hc : l.count 47 = b.count 47 + 1 := by rw [e, List.count_append, List.count_eq_zero.2 hn, List.count_cons_self]; omega
      have hl : l.length = a.length + 1 + b.length := by rw [e]; simp; omega
      rw [hc, Lib.splitK, Lib.index_one, hi, if_neg (by simp)]
      have e1 : l.take ((a.length : Int).toNat + 0) = a := by rw [e]; simp
      have e2 : l.drop ((a.length : Int).toNat + [(47 : UInt8)].length) = b := by rw [e]; simp
      rw [e1, e2, splitK_cut n b (by omega), e, cutS_piece a b hn]

/-- What strings.Split gives at "/". -/
theorem splitB_cut (s : ByteArray) : (Lib.splitB ⟨#[47]⟩ 0 (Lib.countB s ⟨#[47]⟩) s).map (·.data.toList) = cutS s.data.toList := by
  rw [Lib.splitB_data]
  show Lib.splitK [47] 0 (Lib.count s.data.toList [47]) s.data.toList = _
  rw [Lib.count_one]
  exact splitK_cut _ _ (Nat.le_refl _)

/-- A text by its bytes. -/
def txt (l : List UInt8) : Value := .string ⟨l.toArray⟩
theorem txt_data (s : ByteArray) : txt s.data.toList = .string s := rfl
theorem map_txt (l : List ByteArray) : l.map Value.string = (l.map (·.data.toList)).map txt := by
  rw [List.map_map]; rfl

/-- The last '/' of a path. -/
theorem last_slash (s : ByteArray) (i b : List UInt8) (h : s.data.toList = i ++ 47 :: b) (hb : (47 : UInt8) ∉ b) : Lib.lastIndexByte s 47 = i.length := by
  have hsz : s.size = i.length + 1 + b.length := by
    have : s.size = s.data.toList.length := by rw [Array.length_toList]; rfl
    rw [this, h]; simp; omega
  have hget : ∀ j, j < s.size → s.data[j]! = (i ++ 47 :: b).getD j 0 := by
    intro j hj
    have h1 : j < s.data.size := hj
    rw [getElem!_pos s.data j h1, ← h, List.getD_eq_getElem?_getD, Array.getElem?_toList, Array.getElem?_eq_getElem h1]; rfl
  rcases Lib.lastIndexByte_spec s 47 with ⟨_, hn⟩ | ⟨k, hk, e, hc, hn⟩
  · have := hn i.length (by omega)
    rw [hget _ (by omega)] at this
    simp at this
  · rw [e]
    rcases Nat.lt_trichotomy k i.length with hlt | heq | hgt
    · have := hn i.length hlt (by omega)
      rw [hget _ (by omega)] at this
      simp at this
    · rw [heq]
    · exfalso
      rw [hget k hk] at hc
      obtain ⟨m, rfl⟩ : ∃ m, k = i.length + 1 + m := ⟨k - i.length - 1, by omega⟩
      have hm : m < b.length := by omega
      have e2 : (i ++ 47 :: b).getD (i.length + 1 + m) 0 = b[m] := by
        rw [List.getD_eq_getElem?_getD, List.getElem?_append_right (by omega), show i.length + 1 + m - i.length = m + 1 from by omega, List.getElem?_cons_succ, List.getElem?_eq_getElem hm]; rfl
      rw [e2] at hc
      exact hb (by
        have : b[m] = 47 := by
          apply UInt8.toNat_inj.1
          have : (b[m].toNat : Int) = 47 := hc
          have h2 : b[m].toNat = 47 := by omega
          rw [h2]; rfl
        rw [← this]; exact List.getElem_mem hm)

/-- One name more behind a path. -/
theorem make_snoc {ls : List (List UInt8)} (s : List UInt8) (hl : ∀ x ∈ ls, nameOk x = true) : Lib.trimSuffix (makeS ls) [47] ++ 47 :: s = makeS (ls ++ [s]) := by
  have e : makeS (ls ++ [s]) = mkS ls ++ 47 :: s := by
    unfold makeS
    rw [if_neg (by simp), mk_append]; simp [mkS]
  rw [e]
  congr 1
  unfold makeS
  by_cases h : ls = []
  · subst h; decide
  · rw [if_neg h]
    have hns : ¬ ([47] : List UInt8) <:+ mkS ls := by
      intro hs
      obtain ⟨i, b, rfl⟩ : ∃ i b, ls = i ++ [b] := ⟨ls.dropLast, ls.getLast h, (List.dropLast_concat_getLast h).symm⟩
      have hb := hl b (by simp)
      have hn := name_nosep hb
      obtain ⟨t, ht⟩ := hs
      rw [mk_append] at ht
      have e2 : mkS i ++ mkS [b] = (mkS i ++ [47]) ++ b := by simp [mkS]
      rw [e2] at ht
      obtain ⟨j, c, rfl⟩ : ∃ j c, b = j ++ [c] := ⟨b.dropLast, b.getLast (name_ne hb), (List.dropLast_concat_getLast (name_ne hb)).symm⟩
      rw [← List.append_assoc] at ht
      have := List.append_inj_right' ht rfl
      simp only [List.cons.injEq, and_true] at this
      exact hn (by rw [← this]; simp)
    unfold Lib.trimSuffix Lib.hasSuffix
    rw [if_neg (by rw [List.isSuffixOf_iff_suffix]; exact hns)]
end Go.Proofs.YteiifligdfnifaaDoor
