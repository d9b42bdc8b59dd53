/-
  The document's paths: Make, Parent, Base, Home, Under, SameTexts.
-/
import Derived.Test.YtjnbflhpboheiaaDoorPathR5
namespace Go.Proofs.YtjnbflhpboheiaaDoor
open Go.RowKit
set_option maxRecDepth 20000
set_option linter.unusedVariables false

theorem mk_take_succ (l : List (List UInt8)) (k : Nat) (h : k < l.length) : mkS (l.take (k + 1)) = mkS (l.take k) ++ 47 :: l[k] := by
  rw [List.take_succ_eq_append_getElem h, mk_append]; simp [mkS]
theorem mk_take_le (l : List (List UInt8)) (k : Nat) : (mkS (l.take k)).length ≤ (mkS l).length := by
  conv => rhs; rw [← List.take_append_drop k l, mk_append, List.length_append]
  omega
theorem mk_text {m n : List UInt8} {q : List UInt8} (h : q = m ++ 47 :: n) : Value.string (ByteArray.mk m.toArray ++ (ByteArray.mk #[47] ++ ByteArray.mk n.toArray)) = txt q := by
  subst h
  refine text_of ?_
  show (ByteArray.mk m.toArray ++ (ByteArray.mk #[47] ++ ByteArray.mk n.toArray)).data.toList = _
  rw [ByteArray.data_append, ByteArray.data_append, Array.toList_append, Array.toList_append]; simp
theorem size_mk (l : List UInt8) : (ByteArray.mk l.toArray).size = l.length := List.size_toArray

set_option maxHeartbeats 1000000 in
theorem ref_make (a : Option Addr) (c : Nat) (l : List (List UInt8)) (w : World) (hr : RowAt w a (l.map txt)) (hl : l.length ≤ 1152921504606846976) (hm : (mkS l).length ≤ 1152921504606846976) :
    Calls Tryd.prog 19 #[.slice a l.length c] w fun e w' => e = .returned (txt (makeS l)) ∧ w = w' := by
  cases l with
  | nil =>
    go_enter Tryd.func19, Tryd.ntmps19
    go_wp2_with fail
    go_ret
    exact ⟨rfl, rfl⟩
  | cons x y =>
  have HM : Hid (makeS (x :: y) = mkS (x :: y)) := if_neg (by simp)
  have hne : 0 < (x :: y).length := by simp
  generalize x :: y = l at *
  have e0 : ((l.length : Int) == 0) = false := by rw [beq_eq_false_iff_ne]; omega
  have HR := hid hr
  clear hr
  go_enter Tryd.func19, Tryd.ntmps19
  go_wp2_with fail
  go_loop [3, 4] (fun x i => ∃ k : Nat, i = .int .i64 k ∧ k ≤ l.length ∧ x = txt (mkS (l.take k))) (fun _ i => l.length - (intOf i).toNat)
  case atStart => exact ⟨0, rfl, Nat.zero_le _, rfl⟩
  case round =>
    obtain ⟨k, rfl, hk, rfl⟩ := hrel
    by_cases hlt : k < l.length
    · obtain ⟨b, o, rfl, hcell⟩ := HR.out.at k (by simpa using hlt)
      simp only [List.getElem_map] at hcell
      have hs := hid (mk_take_succ l k hlt)
      have h1 := mk_take_le l (k + 1)
      rw [hs.out] at h1
      simp only [List.length_append, List.length_cons] at h1
      clear HR
      generalize l[k] = n at hcell hs h1
      generalize mkS (l.take k) = m at hs h1
      unfold txt at hcell
      unfold txt
      have s1 := size_mk m
      have s2 := size_mk n
      have s3 : m.length + 1 + n.length ≤ 1152921504606846976 := by omega
      clear h1 hm
      go_wp2_with fail
      go_round
      case rel => exact ⟨k + 1, by go_num, by omega, mk_text hs.out⟩
      case measure => simp [intOf]; omega
    · obtain rfl : k = l.length := by omega
      rw [List.take_length]
      go_wp2_with fail
      go_ret
      exact ⟨by rw [HM.out]; rfl, rfl⟩

def RTextPost (w : World) (o : Option (List UInt8)) (e : Ending) (w' : World) : Prop := e = .returned (.tuple #[txt (o.getD []), .bool o.isSome]) ∧ Below w.heap.size w w'
theorem rtext_ret {v : Value} {a b : List UInt8} {m n : Bool} (h : v = txt a) (hab : a = b) (hmn : m = n) : Ending.returned (.tuple #[v, .bool m]) = .returned (.tuple #[txt b, .bool n]) := by
  subst h; subst hab; subst hmn; rfl
theorem make_len : ∀ {ls : List (List UInt8)}, (∀ s ∈ ls, nameOk s = true) → (mkS ls).length ≤ 33 * ls.length
  | [], _ => by simp [mkS]
  | a :: l, h => by
    have h1 := (name_len (h a (by simp))).2
    have h2 := make_len (ls := l) (fun s hs => h s (by simp [hs]))
    have e : mkS (a :: l) = 47 :: (a ++ mkS l) := rfl
    rw [e]; simp only [List.length_cons, List.length_append]; omega
theorem make_len' {ls : List (List UInt8)} (h : ∀ s ∈ ls, nameOk s = true) : (makeS ls).length ≤ 33 * ls.length + 1 := by
  unfold makeS; split
  · simp
  · have := make_len h; omega
theorem mk_small {ls : List (List UInt8)} (h : ∀ s ∈ ls, nameOk s = true) (h8 : ls.length ≤ 8) : (mkS ls).length ≤ 264 := by
  have := make_len h; omega

set_option maxHeartbeats 1000000 in
theorem ref_parent (s : ByteArray) (w : World) : Calls Tryd.prog 10 #[.string s] w (RTextPost w (parentP (bl s))) := by
  cases hp : parts (bl s) with
  | none =>
    have HP : Hid (parentP (bl s) = none) := by show _ = _; unfold parentP; rw [hp]
    have HE := hid hp
    clear hp
    go_enter Tryd.func10, Tryd.ntmps10
    go_wp2_with fail
    refine (ref_parts s _).mono ?_
    rintro e w' ⟨v, rfl, hv, hb⟩
    have HB := hid hb
    rw [HE.out]
    clear hb hv
    go_wp2_with fail
    go_ret2
    exact ⟨by rw [HP.out]; rfl, HB.out⟩
  | some ls =>
    have hps := parts_some hp
    have h8 := hps.2.2.1
    have HN := hid hps.1
    have HP : Hid (parentP (bl s) = if ls = [] then none else some (makeS ls.dropLast)) := by show _ = _; unfold parentP; rw [hp]
    have HE := hid hp
    clear hp hps
    go_enter Tryd.func10, Tryd.ntmps10
    go_wp2_with fail
    refine (ref_parts s _).mono ?_
    rintro e w' ⟨v, rfl, hv, hb⟩
    rw [HE.out] at hv
    obtain ⟨a, c, rfl, hr, -, hc, hm⟩ := hv
    rw [HE.out]
    have HB := hid hb
    clear hb
    simp only [Option.getD_some] at hr hc ⊢
    unfold maxLen at hm
    cases ls with
    | nil =>
      go_wp2_with fail
      go_ret2
      exact ⟨by rw [HP.out]; rfl, HB.out⟩
    | cons x y =>
      have hne : (x :: y) ≠ [] := by simp
      generalize x :: y = ls at *
      obtain ⟨i, b, rfl⟩ : ∃ i b, ls = i ++ [b] := ⟨ls.dropLast, ls.getLast hne, (List.dropLast_concat_getLast hne).symm⟩
      rw [if_neg hne, List.dropLast_concat] at HP
      have hli : (i ++ [b]).length = i.length + 1 := by simp
      rw [hli] at h8 hc ⊢
      have hmk := mk_small (fun s hs => HN.out s (by simp [hs])) (show i.length ≤ 8 by omega)
      have HM := hid (fun w (h : RowAt w a (i.map txt)) c => ref_make a c i w h (by omega) (by omega))
      have HR := hid (show RowAt w' a (i.map txt) from by
        have := hr.take i.length
        rw [List.map_append, List.take_left' (by simp)] at this
        exact this)
      clear hr hne hmk hli
      have e0 : (((i.length : Int) + 1) == 0) = false := by rw [beq_eq_false_iff_ne]; omega
      go_wp2_with fail
      refine (HM.out _ HR.out _).mono ?_
      rintro e w2 ⟨rfl, rfl⟩
      go_wp2_with fail
      go_ret2
      exact ⟨rtext_ret rfl (by rw [HP.out]; rfl) (by rw [HP.out]; rfl), HB.out⟩


def RHomePost (w : World) (s : ByteArray) (e : Ending) (w' : World) : Prop := e = .returned (.tuple #[txt (homeP (bl s)), .bool (parts (bl s)).isSome]) ∧ Below w.heap.size w w'
set_option maxHeartbeats 1000000 in
theorem ref_home (s : ByteArray) (w : World) : Calls Tryd.prog 7 #[.string s] w (RHomePost w s) := by
  cases hp : parts (bl s) with
  | none =>
    have HP : Hid (homeP (bl s) = []) := by show _ = _; unfold homeP; rw [hp]
    have HE := hid hp
    clear hp
    go_enter Tryd.func7, Tryd.ntmps7
    go_wp2_with fail
    refine (ref_parts s _).mono ?_
    rintro e w' ⟨v, rfl, hv, hb⟩
    have HB := hid hb
    rw [HE.out]
    clear hb hv
    go_wp2_with fail
    go_ret2
    exact ⟨rtext_ret rfl HP.out.symm (by rw [HE.out]; rfl), HB.out⟩
  | some ls =>
    have h8 := (parts_some hp).2.2.1
    have HP : Hid (homeP (bl s) = ls.headD []) := by show _ = _; unfold homeP; rw [hp]
    have HE := hid hp
    clear hp
    go_enter Tryd.func7, Tryd.ntmps7
    go_wp2_with fail
    refine (ref_parts s _).mono ?_
    rintro e w' ⟨v, rfl, hv, hb⟩
    rw [HE.out] at hv
    obtain ⟨a, c, rfl, hr, -, hc, hm⟩ := hv
    rw [HE.out]
    have HB := hid hb
    clear hb
    simp only [Option.getD_some] at hr hc ⊢
    unfold maxLen at hm
    cases ls with
    | nil =>
      go_wp2_with fail
      go_ret2
      exact ⟨rtext_ret rfl HP.out.symm (by rw [HE.out]; rfl), HB.out⟩
    | cons x y =>
      obtain ⟨g, o, rfl, hcell⟩ := hr.at 0 (by simp)
      simp only [List.map_cons, List.getElem_cons_zero, Nat.add_zero] at hcell
      unfold txt at hcell
      have hli : (x :: y).length = y.length + 1 := rfl
      rw [hli] at h8 hc ⊢
      clear hr hli
      have e0 : (((y.length : Int) + 1) == 0) = false := by rw [beq_eq_false_iff_ne]; omega
      go_wp2_with fail
      go_ret2
      exact ⟨rtext_ret rfl HP.out.symm (by rw [HE.out]; rfl), HB.out⟩

end Go.Proofs.YtjnbflhpboheiaaDoor
