/-
  Writers and readers, as plain functions.
-/
import Derived.Test.YteiifligdfnifaaDoorDecL
namespace Go.Proofs.YteiifligdfnifaaDoor
open Go.RowKit

/-- A writer holds bytes, and whether a number was refused. -/
abbrev WSt := List UInt8 × Bool
def numW (s : WSt) (n : Int) : WSt := if isNum n then (s.1 ++ enc n.toNat, s.2) else (s.1, true)
def blobW (s : WSt) (l : List UInt8) : WSt := (s.1 ++ enc l.length ++ l, s.2)
def numsW (s : WSt) (ns : List Int) : WSt := ns.foldl numW s
def blobsW (s : WSt) (ls : List (List UInt8)) : WSt := ls.foldl blobW s

theorem numsW_take (s : WSt) (ns : List Int) (k : Nat) (h : k < ns.length) : numsW s (ns.take (k + 1)) = numW (numsW s (ns.take k)) ns[k] := by
  unfold numsW
  rw [List.take_succ_eq_append_getElem h, List.foldl_append]; rfl
theorem blobsW_take (s : WSt) (ls : List (List UInt8)) (k : Nat) (h : k < ls.length) : blobsW s (ls.take (k + 1)) = blobW (blobsW s (ls.take k)) ls[k] := by
  unfold blobsW
  rw [List.take_succ_eq_append_getElem h, List.foldl_append]; rfl
theorem numW_len (s : WSt) (n : Int) : (numW s n).1.length ≤ s.1.length + 9 := by
  unfold numW
  split
  · rename_i h
    have h1 := (isNum_iff n).1 h
    have h2 := enc_length9 (n := n.toNat) (by omega)
    simp only [List.length_append]; omega
  · simp
theorem blobW_len (s : WSt) (l : List UInt8) (h : l.length < 2 ^ 63) : (blobW s l).1.length ≤ s.1.length + 9 + l.length := by
  have h2 := enc_length9 (n := l.length) h
  unfold blobW
  simp only [List.length_append]; omega
theorem numsW_len : ∀ (ns : List Int) (s : WSt), (numsW s ns).1.length ≤ s.1.length + 9 * ns.length
  | [], s => by simp [numsW]
  | n :: ns, s => by
    have h1 := numsW_len ns (numW s n)
    have h2 := numW_len s n
    show (numsW (numW s n) ns).1.length ≤ _
    rw [List.length_cons]; omega
theorem blobsW_len : ∀ (ls : List (List UInt8)) (s : WSt), (∀ l ∈ ls, l.length < 2 ^ 63) → (blobsW s ls).1.length ≤ s.1.length + 9 * ls.length + ls.flatten.length
  | [], s, _ => by simp [blobsW]
  | l :: ls, s, h => by
    have h1 := blobsW_len ls (blobW s l) (fun x hx => h x (List.mem_cons_of_mem _ hx))
    have h2 := blobW_len s l (h l (List.mem_cons_self ..))
    show (blobsW (blobW s l) ls).1.length ≤ _
    rw [List.length_cons, List.flatten_cons, List.length_append]; omega

/-- A reader holds what is left, and the first error. -/
abbrev RSt := List UInt8 × Int
def rdNum (s : RSt) : Int × RSt := if s.2 = 0 then ((decode s.1).1, s.1.drop (decode s.1).2.1, (decode s.1).2.2) else (0, s)
def rdBlob (s : RSt) : List UInt8 × RSt :=
  if (rdNum s).2.2 = 0 then (if (rdNum s).2.1.length < (rdNum s).1.toNat then ([], s.1, 12) else ((rdNum s).2.1.take (rdNum s).1.toNat, (rdNum s).2.1.drop (rdNum s).1.toNat, 0)) else ([], (rdNum s).2)

theorem decode_cases (l : List UInt8) : (∃ n u, decode l = (n, u, 0) ∧ u ≤ l.length ∧ n < 4611686018427387904) ∨ ∃ e, decode l = (0, 0, e) ∧ e ≠ 0 := by
  by_cases h : (decode l).2.2 = 0
  · have h' : decode l = ((decode l).1, (decode l).2.1, 0) := by rw [← h]
    obtain ⟨-, h1, h2⟩ := decode_enc h'
    exact .inl ⟨_, _, h', h1, h2⟩
  · refine .inr ⟨(decode l).2.2, ?_, h⟩
    unfold decode at h ⊢
    split
    · split <;> rfl
    · split
      · rfl
      · rename_i i hi hc
        rw [hi] at h
        simp only [if_neg hc] at h
        exact absurd h (by simp)
theorem decodeAt_zero (l : List UInt8) : decodeAt l 0 = (((decode l).1 : Int), ((decode l).2.1 : Int), ((decode l).2.2 : Int)) := by
  unfold decodeAt
  rw [if_pos ⟨Int.le_refl _, by omega⟩, show (0 : Int).toNat = 0 from rfl, List.drop_zero]
  rcases decode_cases l with ⟨n, u, h, -⟩ | ⟨e, h, he⟩
  · rw [h]; simp
  · rw [h]; simp [he]
theorem rdNum_enc {n : Nat} (h : n < 4611686018427387904) (rest : List UInt8) : rdNum (enc n ++ rest, 0) = ((n : Int), rest, 0) := by
  unfold rdNum
  rw [if_pos rfl]
  dsimp only
  rw [enc_decode h]
  simp
theorem rdBlob_enc {l : List UInt8} (h : l.length < 4611686018427387904) (rest : List UInt8) : rdBlob (enc l.length ++ (l ++ rest), 0) = (l, rest, 0) := by
  unfold rdBlob
  rw [rdNum_enc h]
  simp
/-- Blobs one behind the other. -/
def BL (ls : List (List UInt8)) : List UInt8 := ls.flatMap fun l => enc l.length ++ l
theorem blobsW_eq : ∀ (ls : List (List UInt8)) (s : WSt), blobsW s ls = (s.1 ++ BL ls, s.2)
  | [], s => by simp [blobsW, BL]
  | l :: ls, s => by
    show blobsW (blobW s l) ls = _
    rw [blobsW_eq ls]
    simp [blobW, BL]
theorem numsW_good : ∀ (ns : List Int) (s : WSt), ns.all isNum = true → numsW s ns = (s.1 ++ encAll ns, s.2)
  | [], s, _ => by simp [numsW, encAll]
  | n :: ns, s, h => by
    simp only [List.all_cons, Bool.and_eq_true] at h
    show numsW (numW s n) ns = _
    rw [numsW_good ns _ h.2]
    unfold numW
    rw [if_pos h.1]
    simp [encAll]
theorem numsW_true : ∀ (ns : List Int) (l : List UInt8), (numsW (l, true) ns).2 = true
  | [], l => rfl
  | n :: ns, l => by
    show (numsW (numW (l, true) n) ns).2 = true
    have : ∃ l', numW (l, true) n = (l', true) := by unfold numW; split <;> exact ⟨_, rfl⟩
    obtain ⟨l', e⟩ := this
    rw [e]; exact numsW_true ns l'
theorem numsW_bad : ∀ (ns : List Int) (s : WSt), ns.all isNum = false → (numsW s ns).2 = true
  | [], s, h => by simp at h
  | n :: ns, s, h => by
    show (numsW (numW s n) ns).2 = true
    simp only [List.all_cons, Bool.and_eq_false_iff] at h
    cases hn : isNum n with
    | false =>
      have e : numW s n = (s.1, true) := by unfold numW; rw [hn, if_neg (by decide)]
      rw [e]; exact numsW_true ns _
    | true =>
      rw [hn] at h
      exact numsW_bad ns _ (h.resolve_left (by decide))
theorem encAll_drop (ns : List Int) (k : Nat) (h : k < ns.length) : encAll (ns.drop k) = enc ns[k].toNat ++ encAll (ns.drop (k + 1)) := by
  rw [List.drop_eq_getElem_cons h]; rfl
theorem BL_drop (ls : List (List UInt8)) (k : Nat) (h : k < ls.length) : BL (ls.drop k) = enc ls[k].length ++ (ls[k] ++ BL (ls.drop (k + 1))) := by
  rw [List.drop_eq_getElem_cons h]
  generalize ls[k] = l
  generalize ls.drop (k + 1) = r
  simp [BL]
theorem BL_len : ∀ (ls : List (List UInt8)), (∀ l ∈ ls, l.length < 2 ^ 63) → (BL ls).length ≤ 9 * ls.length + ls.flatten.length
  | [], _ => by simp [BL]
  | l :: ls, h => by
    have h1 := BL_len ls (fun x hx => h x (List.mem_cons_of_mem _ hx))
    have h2 := enc_length9 (n := l.length) (h l (List.mem_cons_self ..))
    have e : BL (l :: ls) = enc l.length ++ l ++ BL ls := by simp [BL]
    rw [e, List.length_cons, List.flatten_cons]
    simp only [List.length_append]; omega
end Go.Proofs.YteiifligdfnifaaDoor
