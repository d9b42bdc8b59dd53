/-
  Package path: Check, Parent, Base, Home, Join, Under.
-/
import Derived.Test.YtjnbflhpboheiaaDoorPathW
namespace Go.Proofs.YtjnbflhpboheiaaDoor
open Go.RowKit
set_option maxRecDepth 20000
set_option linter.unusedVariables false

theorem path_check (s : ByteArray) (w : World) : Calls Tryd.prog 32 #[.string s] w fun e w' => e = .returned (.int .i64 (errP (parts (bl s)))) ∧ Below w.heap.size w w' := by
  go_enter Tryd.func32, Tryd.ntmps32
  go_wp2_with fail
  refine (path_parts s _).mono ?_
  rintro e w' ⟨v, rfl, hv, hb⟩
  have HB := hid hb
  clear hb hv
  go_wp2_with fail
  go_ret
  exact ⟨rfl, HB.out⟩

/-- The path above. -/
def parentP (p : List UInt8) : Option (List UInt8) := match parts p with | none => none | some ls => if ls = [] then none else some (makeS ls.dropLast)
/-- The last name. -/
def baseP (p : List UInt8) : Option (List UInt8) := match parts p with | none => none | some ls => if ls = [] then none else some (ls.getLastD [])
/-- The first name. -/
def homeP (p : List UInt8) : List UInt8 := match parts p with | none => [] | some ls => ls.headD []
def TextPost (w : World) (o : Option (List UInt8)) (e : Ending) (w' : World) : Prop := e = .returned (.tuple #[txt (o.getD []), .int .i64 (errP o)]) ∧ Below w.heap.size w w'

theorem last_index (s : ByteArray) (w : World) (hs : s.size < 4611686018427387904) (i b : List UInt8) (h : bl s = i ++ 47 :: b) (hb : (47 : UInt8) ∉ b) :
    Calls Tryd.prog 33 #[.string s, .int .u8 47] w fun e w' => e = .returned (.int .i64 (i.length : Int)) ∧ w = w' :=
  (Tryd.strings_LastIndexByte s 47 hs w).mono fun e w' ⟨he, hw⟩ => ⟨by rw [he, last_slash s i b h hb], hw.symm⟩

/-- Is the one path the other, or above it? -/
def underP (p q : List UInt8) : Bool := match parts p, parts q with | some a, some b => a.isPrefixOf b | _, _ => false
def errP2 (p q : List UInt8) : Int := if (parts p).isSome ∧ (parts q).isSome then 0 else 20
theorem text_of {x : ByteArray} {l : List UInt8} (h : bl x = l) : Value.string x = txt l := by subst h; rfl
theorem take_text (s : ByteArray) (m : Nat) : Value.string (s.extract 0 m) = txt ((bl s).take m) := text_of (Lib.extract_from_zero s m)
theorem drop_text (s : ByteArray) (m : Nat) : Value.string (s.extract m s.size) = txt ((bl s).drop m) := text_of (Lib.extract_to_end s m)
theorem text_ret {v : Value} {a b : List UInt8} {m n : Int} (h : v = txt a) (hab : a = b) (hmn : m = n) : Ending.returned (.tuple #[v, .int .i64 m]) = .returned (.tuple #[txt b, .int .i64 n]) := by
  subst h; subst hab; subst hmn; rfl
theorem under_text {p q : ByteArray} {a b : List (List UInt8)} (hp : parts (bl p) = some a) (hq : parts (bl q) = some b) :
    underP (bl p) (bl q) = ((p.toList == [47]) || (q.toList == p.toList) || Lib.hasPrefix (bl q) (bl p ++ [47])) ∧ errP2 (bl p) (bl q) = 0 := by
  refine ⟨?_, by unfold errP2; rw [hp, hq]; rfl⟩
  have h := under_iff hp hq
  have e : underP (bl p) (bl q) = a.isPrefixOf b := by unfold underP; rw [hp, hq]
  rw [e, Bool.eq_iff_iff, List.isPrefixOf_iff_prefix, ← h, Lib.toList_data, Lib.toList_data]
  unfold Lib.hasPrefix
  simp only [Bool.or_eq_true, beq_iff_eq, List.isPrefixOf_iff_prefix]
  exact or_assoc.symm

theorem parts_size {s : ByteArray} {ls : List (List UInt8)} (h : parts (bl s) = some ls) : s.size ≤ 128 := by
  have := (parts_some h).2.2.2.1
  rwa [bl_length] at this
theorem not_root {s : ByteArray} {ls : List (List UInt8)} (h : parts (bl s) = some ls) (hne : ls ≠ []) : (s.toList == [47]) = false := by
  rw [beq_eq_false_iff_ne, Lib.toList_data]
  intro e
  exact hne ((parts_some h).2.2.2.2.2 e)
theorem none_root {s : ByteArray} (h : parts (bl s) = none) : (s.toList == [47]) = false := by
  rw [beq_eq_false_iff_ne, Lib.toList_data]
  intro e
  have : parts (bl s) = some [] := parts_root (by rw [beq_iff_eq, Lib.toList_data]; exact e)
  rw [this] at h; cases h
theorem is_root {s : ByteArray} (h : parts (bl s) = some []) : (s.toList == [47]) = true := by
  rw [beq_iff_eq, Lib.toList_data]
  exact (parts_some h).2.2.2.2.1 rfl

set_option maxHeartbeats 1000000 in
theorem path_parent (s : ByteArray) (w : World) : Calls Tryd.prog 20 #[.string s] w (TextPost w (parentP (bl s))) := by
  cases hp : parts (bl s) with
  | none =>
    have HP : Hid (parentP (bl s) = none) := by show _ = _; unfold parentP; rw [hp]
    have h1 := none_root hp
    have g1 := bytes_ne h1
    have HE := hid hp
    clear hp
    go_enter Tryd.func20, Tryd.ntmps20
    go_wp2_with fail
    refine (path_check s _).mono ?_
    rintro e w' ⟨rfl, hb⟩
    have HB := hid hb
    rw [HE.out]
    clear hb
    go_wp2_with fail
    go_ret2
    exact ⟨by rw [HP.out]; rfl, HB.out⟩
  | some ls =>
    by_cases hne : ls = []
    · subst hne
      have HP : Hid (parentP (bl s) = none) := by show _ = _; unfold parentP; rw [hp]; rfl
      have h1 := is_root hp
      clear hp
      go_enter Tryd.func20, Tryd.ntmps20
      go_wp2_with fail
      go_ret2
      exact ⟨by rw [HP.out]; rfl, Below.refl _ _⟩
    · have HP : Hid (parentP (bl s) = some (makeS ls.dropLast)) := by show _ = _; unfold parentP; rw [hp]; exact if_neg hne
      have h1 := not_root hp hne
      have g1 := bytes_ne h1
      have hsz := parts_size hp
      obtain ⟨i, b, hl, he, hb, -, hm, -⟩ := parts_split hp hne
      subst hl
      rw [List.dropLast_concat, hm] at HP
      have hle : (mkS i).length + 1 ≤ s.size := by rw [← bl_length, he]; simp
      have HE := hid hp
      have HL := hid (fun w => last_index s w (by omega) (mkS i) b he hb)
      clear hp hm hb he
      generalize (mkS i).length = k at HP hle HL
      go_enter Tryd.func20, Tryd.ntmps20
      go_wp2_with fail
      refine (path_check s _).mono ?_
      rintro e w' ⟨rfl, hb⟩
      have HB := hid hb
      rw [HE.out]
      clear hb
      go_wp2_with fail
      refine (HL.out _).mono ?_
      rintro e w2 ⟨rfl, rfl⟩
      go_wp2_with fail
      go_ret2
      exact ⟨text_ret (by rw [show (max 1 (k : Int)).toNat = max 1 k from by omega]; exact take_text s _) (by rw [HP.out]; rfl) (by rw [HP.out]; rfl), HB.out⟩


def HomePost (w : World) (s : ByteArray) (e : Ending) (w' : World) : Prop := e = .returned (.tuple #[txt (homeP (bl s)), .int .i64 (errP (parts (bl s)))]) ∧ Below w.heap.size w w'
set_option maxHeartbeats 1000000 in
theorem path_home (s : ByteArray) (w : World) : Calls Tryd.prog 30 #[.string s] w (HomePost w s) := by
  go_enter Tryd.func30, Tryd.ntmps30
  go_wp2_with fail
  refine (path_parts s _).mono ?_
  rintro e w' ⟨v, rfl, ⟨a, c, rfl, hr, -, hc, hm⟩, hb⟩
  have HB := hid hb
  have HH : Hid (homeP (bl s) = ((parts (bl s)).getD []).headD []) := by
    show _ = _; unfold homeP
    cases parts (bl s) <;> rfl
  have HE : Hid ((parts (bl s)).getD [] ≠ [] → 0 = errP (parts (bl s))) := by
    intro h
    cases e : parts (bl s) with
    | none => rw [e] at h; exact absurd rfl h
    | some x => rfl
  generalize (parts (bl s)).getD [] = ps at HH hr hc HE
  clear hb
  unfold maxLen at hm
  cases ps with
  | nil =>
    go_wp2_with fail
    go_ret2
    exact ⟨text_ret rfl HH.out.symm rfl, HB.out⟩
  | cons p ps =>
    obtain ⟨b, o, rfl, hcell⟩ := hr.at 0 (by simp)
    have hl : 0 < (p :: ps).length := by simp
    simp only [List.map_cons, List.getElem_cons_zero, Nat.add_zero] at hcell
    unfold txt at hcell
    clear hr
    go_wp2_with fail
    go_ret2
    exact ⟨text_ret rfl HH.out.symm (HE.out (by simp)), HB.out⟩

end Go.Proofs.YtjnbflhpboheiaaDoor
