/-
  The document's paths: Make, Parent, Base, Home, Under, SameTexts.
-/
import Derived.Test.YtjbmphkoafkgfaaDoorPathR
namespace Go.Proofs.YtjbmphkoafkgfaaDoor
open Go.RowKit
set_option maxRecDepth 20000
set_option linter.unusedVariables false

theorem mk_take_succ (l : List (List UInt8)) (k : Nat) (h : k < l.length) : mkS (l.take (k + 1)) = mkS (l.take k) ++ 47 :: l[k] := by
  rw [List.take_succ_eq_append_getElem h, mk_append]; simp [mkS]
theorem mk_take_le (l : List (List UInt8)) (k : Nat) : (mkS (l.take k)).length ≤ (mkS l).length := by
  conv => rhs; rw [← List.take_append_drop k l, mk_append, List.length_append]
  omega
theorem mk_text {m n : List UInt8} {q : List UInt8} (h : q = m ++ 47 :: n) : Value.string (ByteArray.mk m.toArray ++ (ByteArray.mk #[47] ++ ByteArray.mk n.toArray)) = txt q := by
  subst h
  refine text_of ?_
  show (ByteArray.mk m.toArray ++ (ByteArray.mk #[47] ++ ByteArray.mk n.toArray)).data.toList = _
  rw [ByteArray.data_append, ByteArray.data_append, Array.toList_append, Array.toList_append]; simp
theorem size_mk (l : List UInt8) : (ByteArray.mk l.toArray).size = l.length := List.size_toArray

set_option maxHeartbeats 1000000 in
theorem ref_make (a : Option Addr) (c : Nat) (l : List (List UInt8)) (w : World) (hr : RowAt w a (l.map txt)) (hl : l.length ≤ 1152921504606846976) (hm : (mkS l).length ≤ 1152921504606846976) :
    Calls Tryd.prog 31 #[.slice a l.length c] w fun e w' => e = .returned (txt (makeS l)) ∧ w = w' := by
  cases l with
  | nil =>
    go_enter Tryd.func31, Tryd.ntmps31
    go_wp2_with fail
    go_ret
    exact ⟨rfl, rfl⟩
  | cons x y =>
  have HM : Hid (makeS (x :: y) = mkS (x :: y)) := if_neg (by simp)
  have hne : 0 < (x :: y).length := by simp
  generalize x :: y = l at *
  have e0 : ((l.length : Int) == 0) = false := by rw [beq_eq_false_iff_ne]; omega
  have HR := hid hr
  clear hr
  go_enter Tryd.func31, Tryd.ntmps31
  go_wp2_with fail
  go_loop [3, 4] (fun x i => ∃ k : Nat, i = .int .i64 k ∧ k ≤ l.length ∧ x = txt (mkS (l.take k))) (fun _ i => l.length - (intOf i).toNat)
  case atStart => exact ⟨0, rfl, Nat.zero_le _, rfl⟩
  case round =>
    obtain ⟨k, rfl, hk, rfl⟩ := hrel
    by_cases hlt : k < l.length
    · obtain ⟨b, o, rfl, hcell⟩ := HR.out.at k (by simpa using hlt)
      simp only [List.getElem_map] at hcell
      have hs := hid (mk_take_succ l k hlt)
      have h1 := mk_take_le l (k + 1)
      rw [hs.out] at h1
      simp only [List.length_append, List.length_cons] at h1
      clear HR
      generalize l[k] = n at hcell hs h1
      generalize mkS (l.take k) = m at hs h1
      unfold txt at hcell
      unfold txt
      have s1 := size_mk m
      have s2 := size_mk n
      have s3 : m.length + 1 + n.length ≤ 1152921504606846976 := by omega
      clear h1 hm
      go_wp2_with fail
      go_round
      case rel => exact ⟨k + 1, by go_num, by omega, mk_text hs.out⟩
      case measure => simp [intOf]; omega
    · obtain rfl : k = l.length := by omega
      rw [List.take_length]
      go_wp2_with fail
      go_ret
      exact ⟨by rw [HM.out]; rfl, rfl⟩

def RTextPost (w : World) (o : Option (List UInt8)) (e : Ending) (w' : World) : Prop := e = .returned (.tuple #[txt (o.getD []), .bool o.isSome]) ∧ Below w.heap.size w w'
theorem rtext_ret {v : Value} {a b : List UInt8} {m n : Bool} (h : v = txt a) (hab : a = b) (hmn : m = n) : Ending.returned (.tuple #[v, .bool m]) = .returned (.tuple #[txt b, .bool n]) := by
  subst h; subst hab; subst hmn; rfl
theorem mk_small {ls : List (List UInt8)} (h : ∀ s ∈ ls, nameOk s = true) (h8 : ls.length ≤ 8) : (mkS ls).length ≤ 264 := by
  have := make_len h; omega

set_option maxHeartbeats 1000000 in
theorem ref_parent (s : ByteArray) (w : World) : Calls Tryd.prog 11 #[.string s] w (RTextPost w (parentP (bl s))) := by
  cases hp : parts (bl s) with
  | none =>
    have HP : Hid (parentP (bl s) = none) := by show _ = _; unfold parentP; rw [hp]
    have HE := hid hp
    clear hp
    go_enter Tryd.func11, Tryd.ntmps11
    go_wp2_with fail
    refine (ref_parts s _).mono ?_
    rintro e w' ⟨v, rfl, hv, hb⟩
    have HB := hid hb
    rw [HE.out]
    clear hb hv
    go_wp2_with fail
    go_ret2
    exact ⟨by rw [HP.out]; rfl, HB.out⟩
  | some ls =>
    have hps := parts_some hp
    have h8 := hps.2.2.1
    have HN := hid hps.1
    have HP : Hid (parentP (bl s) = if ls = [] then none else some (makeS ls.dropLast)) := by show _ = _; unfold parentP; rw [hp]
    have HE := hid hp
    clear hp hps
    go_enter Tryd.func11, Tryd.ntmps11
    go_wp2_with fail
    refine (ref_parts s _).mono ?_
    rintro e w' ⟨v, rfl, hv, hb⟩
    rw [HE.out] at hv
    obtain ⟨a, c, rfl, hr, -, hc, hm⟩ := hv
    rw [HE.out]
    have HB := hid hb
    clear hb
    simp only [Option.getD_some] at hr hc ⊢
    unfold maxLen at hm
    cases ls with
    | nil =>
      go_wp2_with fail
      go_ret2
      exact ⟨by rw [HP.out]; rfl, HB.out⟩
    | cons x y =>
      have hne : (x :: y) ≠ [] := by simp
      generalize x :: y = ls at *
      obtain ⟨i, b, rfl⟩ : ∃ i b, ls = i ++ [b] := ⟨ls.dropLast, ls.getLast hne, (List.dropLast_concat_getLast hne).symm⟩
      rw [if_neg hne, List.dropLast_concat] at HP
      have hli : (i ++ [b]).length = i.length + 1 := by simp
      rw [hli] at h8 hc ⊢
      have hmk := mk_small (fun s hs => HN.out s (by simp [hs])) (show i.length ≤ 8 by omega)
      have HM := hid (fun w (h : RowAt w a (i.map txt)) c => ref_make a c i w h (by omega) (by omega))
      have HR := hid (show RowAt w' a (i.map txt) from by
        have := hr.take i.length
        rw [List.map_append, List.take_left' (by simp)] at this
        exact this)
      clear hr hne hmk hli
      have e0 : (((i.length : Int) + 1) == 0) = false := by rw [beq_eq_false_iff_ne]; omega
      go_wp2_with fail
      refine (HM.out _ HR.out _).mono ?_
      rintro e w2 ⟨rfl, rfl⟩
      go_wp2_with fail
      go_ret2
      exact ⟨rtext_ret rfl (by rw [HP.out]; rfl) (by rw [HP.out]; rfl), HB.out⟩

set_option maxHeartbeats 1000000 in
theorem ref_base (s : ByteArray) (w : World) : Calls Tryd.prog 13 #[.string s] w (RTextPost w (baseP (bl s))) := by
  cases hp : parts (bl s) with
  | none =>
    have HP : Hid (baseP (bl s) = none) := by show _ = _; unfold baseP; rw [hp]
    have HE := hid hp
    clear hp
    go_enter Tryd.func13, Tryd.ntmps13
    go_wp2_with fail
    refine (ref_parts s _).mono ?_
    rintro e w' ⟨v, rfl, hv, hb⟩
    have HB := hid hb
    rw [HE.out]
    clear hb hv
    go_wp2_with fail
    go_ret2
    exact ⟨by rw [HP.out]; rfl, HB.out⟩
  | some ls =>
    have h8 := (parts_some hp).2.2.1
    have HP : Hid (baseP (bl s) = if ls = [] then none else some (ls.getLastD [])) := by show _ = _; unfold baseP; rw [hp]
    have HE := hid hp
    clear hp
    go_enter Tryd.func13, Tryd.ntmps13
    go_wp2_with fail
    refine (ref_parts s _).mono ?_
    rintro e w' ⟨v, rfl, hv, hb⟩
    rw [HE.out] at hv
    obtain ⟨a, c, rfl, hr, -, hc, hm⟩ := hv
    rw [HE.out]
    have HB := hid hb
    clear hb
    simp only [Option.getD_some] at hr hc ⊢
    unfold maxLen at hm
    cases ls with
    | nil =>
      go_wp2_with fail
      go_ret2
      exact ⟨by rw [HP.out]; rfl, HB.out⟩
    | cons x y =>
      have hne : (x :: y) ≠ [] := by simp
      generalize x :: y = ls at *
      obtain ⟨i, b, rfl⟩ : ∃ i b, ls = i ++ [b] := ⟨ls.dropLast, ls.getLast hne, (List.dropLast_concat_getLast hne).symm⟩
      rw [if_neg hne, List.getLastD_concat] at HP
      have hli : (i ++ [b]).length = i.length + 1 := by simp
      obtain ⟨g, o, rfl, hcell⟩ := hr.at i.length (by simp)
      have e1 : ((i ++ [b]).map txt)[i.length]'(by simp) = txt b := by simp
      rw [e1] at hcell
      unfold txt at hcell
      rw [hli] at h8 hc ⊢
      clear hr hne hli e1
      have e0 : (((i.length : Int) + 1) == 0) = false := by rw [beq_eq_false_iff_ne]; omega
      go_wp2_with fail
      go_ret2
      exact ⟨rtext_ret rfl (by rw [HP.out]; rfl) (by rw [HP.out]; rfl), HB.out⟩

def RHomePost (w : World) (s : ByteArray) (e : Ending) (w' : World) : Prop := e = .returned (.tuple #[txt (homeP (bl s)), .bool (parts (bl s)).isSome]) ∧ Below w.heap.size w w'
set_option maxHeartbeats 1000000 in
theorem ref_home (s : ByteArray) (w : World) : Calls Tryd.prog 15 #[.string s] w (RHomePost w s) := by
  cases hp : parts (bl s) with
  | none =>
    have HP : Hid (homeP (bl s) = []) := by show _ = _; unfold homeP; rw [hp]
    have HE := hid hp
    clear hp
    go_enter Tryd.func15, Tryd.ntmps15
    go_wp2_with fail
    refine (ref_parts s _).mono ?_
    rintro e w' ⟨v, rfl, hv, hb⟩
    have HB := hid hb
    rw [HE.out]
    clear hb hv
    go_wp2_with fail
    go_ret2
    exact ⟨rtext_ret rfl HP.out.symm (by rw [HE.out]; rfl), HB.out⟩
  | some ls =>
    have h8 := (parts_some hp).2.2.1
    have HP : Hid (homeP (bl s) = ls.headD []) := by show _ = _; unfold homeP; rw [hp]
    have HE := hid hp
    clear hp
    go_enter Tryd.func15, Tryd.ntmps15
    go_wp2_with fail
    refine (ref_parts s _).mono ?_
    rintro e w' ⟨v, rfl, hv, hb⟩
    rw [HE.out] at hv
    obtain ⟨a, c, rfl, hr, -, hc, hm⟩ := hv
    rw [HE.out]
    have HB := hid hb
    clear hb
    simp only [Option.getD_some] at hr hc ⊢
    unfold maxLen at hm
    cases ls with
    | nil =>
      go_wp2_with fail
      go_ret2
      exact ⟨rtext_ret rfl HP.out.symm (by rw [HE.out]; rfl), HB.out⟩
    | cons x y =>
      obtain ⟨g, o, rfl, hcell⟩ := hr.at 0 (by simp)
      simp only [List.map_cons, List.getElem_cons_zero, Nat.add_zero] at hcell
      unfold txt at hcell
      have hli : (x :: y).length = y.length + 1 := rfl
      rw [hli] at h8 hc ⊢
      clear hr hli
      have e0 : (((y.length : Int) + 1) == 0) = false := by rw [beq_eq_false_iff_ne]; omega
      go_wp2_with fail
      go_ret2
      exact ⟨rtext_ret rfl HP.out.symm (by rw [HE.out]; rfl), HB.out⟩

theorem pre_take_succ {a b : List (List UInt8)} {k : Nat} (ha : k < a.length) (hb : k < b.length) (h : a.take k = b.take k) (e : a[k] = b[k]) : a.take (k + 1) = b.take (k + 1) := by
  rw [List.take_succ_eq_append_getElem ha, List.take_succ_eq_append_getElem hb, h, e]
theorem pre_ne {a b : List (List UInt8)} {k : Nat} (ha : k < a.length) (hb : k < b.length) (e : a[k] ≠ b[k]) : a.isPrefixOf b = false ∧ (a == b) = false := by
  constructor
  · cases h : a.isPrefixOf b with
    | false => rfl
    | true =>
      obtain ⟨c, rfl⟩ := List.isPrefixOf_iff_prefix.1 h
      exact absurd (List.getElem_append_left ha).symm e
  · rw [beq_eq_false_iff_ne]
    rintro rfl
    exact e rfl
theorem pre_all {a b : List (List UInt8)} (h : a.take a.length = b.take a.length) : a.isPrefixOf b = true := by
  rw [List.isPrefixOf_iff_prefix, ← List.take_length (l := a), h]
  exact List.take_prefix _ _
theorem pre_long {a b : List (List UInt8)} (h : b.length < a.length) : a.isPrefixOf b = false := by
  cases e : a.isPrefixOf b with
  | false => rfl
  | true =>
    have := (List.isPrefixOf_iff_prefix.1 e).length_le
    omega
theorem txt_eq (a b : List UInt8) : ((ByteArray.mk a.toArray).toList == (ByteArray.mk b.toArray).toList) = (a == b) := by
  rw [Lib.toList_data, Lib.toList_data]

set_option maxHeartbeats 2000000 in
theorem same_texts (a1 a2 : Option Addr) (c1 c2 : Nat) (l1 l2 : List (List UInt8)) (w : World) (h1 : RowAt w a1 (l1.map txt)) (h2 : RowAt w a2 (l2.map txt)) (n1 : l1.length ≤ 4611686018427387904) (n2 : l2.length ≤ 4611686018427387904) :
    Calls Tryd.prog 21 #[.slice a1 l1.length c1, .slice a2 l2.length c2] w fun e w' => e = .returned (.bool (l1 == l2)) ∧ Below w.heap.size w w' := by
  by_cases hl : l1.length = l2.length
  rotate_left
  · have HE := hid (show (l1 == l2) = false from by rw [beq_eq_false_iff_ne]; rintro rfl; exact hl rfl)
    have e0 : ((l1.length : Int) == (l2.length : Int)) = false := by rw [beq_eq_false_iff_ne]; omega
    have e1 : ((l1.length : Int) != (l2.length : Int)) = true := by unfold bne; rw [e0]; rfl
    clear hl
    go_enter Tryd.func21, Tryd.ntmps21
    go_wp2_with fail
    go_ret
    exact ⟨by rw [HE.out]; rfl, Below.refl _ _⟩
  have e0 : ((l1.length : Int) == (l2.length : Int)) = true := by rw [beq_iff_eq]; omega
  have e1 : ((l1.length : Int) != (l2.length : Int)) = false := by unfold bne; rw [e0]; rfl
  have HL := hid hl
  have H1 := hid h1
  have H2 := hid h2
  have hle : l1.length ≤ l2.length := by omega
  clear hl h1 h2
  go_enter Tryd.func21, Tryd.ntmps21
  go_wp2_with fail
  clear e0 e1
  go_loopw [5] (fun i wr => ∃ (k n : Nat), i = .int .i64 k ∧ k ≤ l1.length ∧ Hid (l1.take k = l2.take k) ∧ wr = w.drewN n) (fun i _ => l1.length - (intOf i).toNat)
  case atStart => exact ⟨0, 0, rfl, Nat.zero_le _, rfl, rfl⟩
  case round =>
    obtain ⟨k, n, rfl, hk, hs, rfl⟩ := hrel
    by_cases hlt : k < l1.length
    · have hlt2 : k < l2.length := by omega
      obtain ⟨b1, o1, rfl, hc1⟩ := H1.out.at k (by simpa using hlt)
      obtain ⟨b2, o2, rfl, hc2⟩ := H2.out.at k (by simpa using hlt2)
      simp only [List.getElem_map] at hc1 hc2
      have hst := hid (pre_take_succ hlt hlt2 hs.out)
      have hne := hid (pre_ne (a := l1) (b := l2) hlt hlt2)
      clear H1 H2
      generalize l1[k] = x at *
      generalize l2[k] = y at *
      unfold txt at hc1 hc2
      go_wp2_with fail
      have hi1 : (0 : Int) ≤ (k : Int) := by omega
      have hi2 : (k : Int) < (l1.length : Int) := by omega
      have hi3 : (k : Int) < (l2.length : Int) := by omega
      cases hxy : (x == y) with
      | true =>
        have HXY := hid (beq_iff_eq.1 hxy)
        go_quiet (fail)
        go_wp2_with fail
        go_roundw
        case rel => exact ⟨k + 1, n + nq, by go_num, by omega, hst.out HXY.out, rfl⟩
        case measure => simp [intOf]; omega
      | false =>
        have HXY := hid (hne.out (beq_eq_false_iff_ne.1 hxy))
        go_quiet (fail)
        go_wp2_with fail
        go_ret
        exact ⟨by rw [HXY.out.2]; rfl, by rw [World.drewN_drewN]; exact below_drewN' _⟩
    · obtain rfl : k = l1.length := by omega
      go_wp2_with fail
      go_ret
      refine ⟨ret_v ?_, below_drewN' _⟩
      have : l1 = l2 := by
        have := hs.out
        rw [List.take_length, List.take_of_length_le (by have := HL.out; omega)] at this
        exact this
      subst this
      simp
end Go.Proofs.YtjbmphkoafkgfaaDoor
