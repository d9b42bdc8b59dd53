/-
  Package path: Check, Parent, Base, Home, Join, Under.
-/
import Derived.Test.YtjbmphkoafkgfaaDoorPathW
namespace Go.Proofs.YtjbmphkoafkgfaaDoor
open Go.RowKit
set_option maxRecDepth 20000
set_option linter.unusedVariables false

theorem path_check (s : ByteArray) (w : World) : Calls Tryd.prog 20 #[.string s] w fun e w' => e = .returned (.int .i64 (errP (parts (bl s)))) ∧ Below w.heap.size w w' := by
  go_enter Tryd.func20, Tryd.ntmps20
  go_wp2_with fail
  refine (path_parts s _).mono ?_
  rintro e w' ⟨v, rfl, hv, hb⟩
  have HB := hid hb
  clear hb hv
  go_wp2_with fail
  go_ret
  exact ⟨rfl, HB.out⟩

/-- The path above. -/
def parentP (p : List UInt8) : Option (List UInt8) := match parts p with | none => none | some ls => if ls = [] then none else some (makeS ls.dropLast)
/-- The last name. -/
def baseP (p : List UInt8) : Option (List UInt8) := match parts p with | none => none | some ls => if ls = [] then none else some (ls.getLastD [])
/-- The first name. -/
def homeP (p : List UInt8) : List UInt8 := match parts p with | none => [] | some ls => ls.headD []
def TextPost (w : World) (o : Option (List UInt8)) (e : Ending) (w' : World) : Prop := e = .returned (.tuple #[txt (o.getD []), .int .i64 (errP o)]) ∧ Below w.heap.size w w'

theorem last_index (s : ByteArray) (w : World) (hs : s.size < 4611686018427387904) (i b : List UInt8) (h : bl s = i ++ 47 :: b) (hb : (47 : UInt8) ∉ b) :
    Calls Tryd.prog 30 #[.string s, .int .u8 47] w fun e w' => e = .returned (.int .i64 (i.length : Int)) ∧ w = w' :=
  (Tryd.strings_LastIndexByte s 47 hs w).mono fun e w' ⟨he, hw⟩ => ⟨by rw [he, last_slash s i b h hb], hw.symm⟩

/-- Is the one path the other, or above it? -/
def underP (p q : List UInt8) : Bool := match parts p, parts q with | some a, some b => a.isPrefixOf b | _, _ => false
def errP2 (p q : List UInt8) : Int := if (parts p).isSome ∧ (parts q).isSome then 0 else 20
theorem text_of {x : ByteArray} {l : List UInt8} (h : bl x = l) : Value.string x = txt l := by subst h; rfl
theorem take_text (s : ByteArray) (m : Nat) : Value.string (s.extract 0 m) = txt ((bl s).take m) := text_of (Lib.extract_from_zero s m)
theorem drop_text (s : ByteArray) (m : Nat) : Value.string (s.extract m s.size) = txt ((bl s).drop m) := text_of (Lib.extract_to_end s m)
theorem text_ret {v : Value} {a b : List UInt8} {m n : Int} (h : v = txt a) (hab : a = b) (hmn : m = n) : Ending.returned (.tuple #[v, .int .i64 m]) = .returned (.tuple #[txt b, .int .i64 n]) := by
  subst h; subst hab; subst hmn; rfl
theorem under_text {p q : ByteArray} {a b : List (List UInt8)} (hp : parts (bl p) = some a) (hq : parts (bl q) = some b) :
    underP (bl p) (bl q) = ((p.toList == [47]) || (q.toList == p.toList) || Lib.hasPrefix (bl q) (bl p ++ [47])) ∧ errP2 (bl p) (bl q) = 0 := by
  refine ⟨?_, by unfold errP2; rw [hp, hq]; rfl⟩
  have h := under_iff hp hq
  have e : underP (bl p) (bl q) = a.isPrefixOf b := by unfold underP; rw [hp, hq]
  rw [e, Bool.eq_iff_iff, List.isPrefixOf_iff_prefix, ← h, Lib.toList_data, Lib.toList_data]
  unfold Lib.hasPrefix
  simp only [Bool.or_eq_true, beq_iff_eq, List.isPrefixOf_iff_prefix]
  exact or_assoc.symm

theorem parts_size {s : ByteArray} {ls : List (List UInt8)} (h : parts (bl s) = some ls) : s.size ≤ 128 := by
  have := (parts_some h).2.2.2.1
  rwa [bl_length] at this
theorem not_root {s : ByteArray} {ls : List (List UInt8)} (h : parts (bl s) = some ls) (hne : ls ≠ []) : (s.toList == [47]) = false := by
  rw [beq_eq_false_iff_ne, Lib.toList_data]
  intro e
  exact hne ((parts_some h).2.2.2.2.2 e)
theorem none_root {s : ByteArray} (h : parts (bl s) = none) : (s.toList == [47]) = false := by
  rw [beq_eq_false_iff_ne, Lib.toList_data]
  intro e
  have : parts (bl s) = some [] := parts_root (by rw [beq_iff_eq, Lib.toList_data]; exact e)
  rw [this] at h; cases h
theorem is_root {s : ByteArray} (h : parts (bl s) = some []) : (s.toList == [47]) = true := by
  rw [beq_iff_eq, Lib.toList_data]
  exact (parts_some h).2.2.2.2.1 rfl

set_option maxHeartbeats 1000000 in
theorem path_parent (s : ByteArray) (w : World) : Calls Tryd.prog 10 #[.string s] w (TextPost w (parentP (bl s))) := by
  cases hp : parts (bl s) with
  | none =>
    have HP : Hid (parentP (bl s) = none) := by show _ = _; unfold parentP; rw [hp]
    have h1 := none_root hp
    have g1 := bytes_ne h1
    have HE := hid hp
    clear hp
    go_enter Tryd.func10, Tryd.ntmps10
    go_wp2_with fail
    refine (path_check s _).mono ?_
    rintro e w' ⟨rfl, hb⟩
    have HB := hid hb
    rw [HE.out]
    clear hb
    go_wp2_with fail
    go_ret2
    exact ⟨by rw [HP.out]; rfl, HB.out⟩
  | some ls =>
    by_cases hne : ls = []
    · subst hne
      have HP : Hid (parentP (bl s) = none) := by show _ = _; unfold parentP; rw [hp]; rfl
      have h1 := is_root hp
      clear hp
      go_enter Tryd.func10, Tryd.ntmps10
      go_wp2_with fail
      go_ret2
      exact ⟨by rw [HP.out]; rfl, Below.refl _ _⟩
    · have HP : Hid (parentP (bl s) = some (makeS ls.dropLast)) := by show _ = _; unfold parentP; rw [hp]; exact if_neg hne
      have h1 := not_root hp hne
      have g1 := bytes_ne h1
      have hsz := parts_size hp
      obtain ⟨i, b, hl, he, hb, -, hm, -⟩ := parts_split hp hne
      subst hl
      rw [List.dropLast_concat, hm] at HP
      have hle : (mkS i).length + 1 ≤ s.size := by rw [← bl_length, he]; simp
      have HE := hid hp
      have HL := hid (fun w => last_index s w (by omega) (mkS i) b he hb)
      clear hp hm hb he
      generalize (mkS i).length = k at HP hle HL
      go_enter Tryd.func10, Tryd.ntmps10
      go_wp2_with fail
      refine (path_check s _).mono ?_
      rintro e w' ⟨rfl, hb⟩
      have HB := hid hb
      rw [HE.out]
      clear hb
      go_wp2_with fail
      refine (HL.out _).mono ?_
      rintro e w2 ⟨rfl, rfl⟩
      go_wp2_with fail
      go_ret2
      exact ⟨text_ret (by rw [show (max 1 (k : Int)).toNat = max 1 k from by omega]; exact take_text s _) (by rw [HP.out]; rfl) (by rw [HP.out]; rfl), HB.out⟩

set_option maxHeartbeats 1000000 in
theorem path_base (s : ByteArray) (w : World) : Calls Tryd.prog 12 #[.string s] w (TextPost w (baseP (bl s))) := by
  cases hp : parts (bl s) with
  | none =>
    have HP : Hid (baseP (bl s) = none) := by show _ = _; unfold baseP; rw [hp]
    have h1 := none_root hp
    have g1 := bytes_ne h1
    have HE := hid hp
    clear hp
    go_enter Tryd.func12, Tryd.ntmps12
    go_wp2_with fail
    refine (path_check s _).mono ?_
    rintro e w' ⟨rfl, hb⟩
    have HB := hid hb
    rw [HE.out]
    clear hb
    go_wp2_with fail
    go_ret2
    exact ⟨by rw [HP.out]; rfl, HB.out⟩
  | some ls =>
    by_cases hne : ls = []
    · subst hne
      have HP : Hid (baseP (bl s) = none) := by show _ = _; unfold baseP; rw [hp]; rfl
      have h1 := is_root hp
      clear hp
      go_enter Tryd.func12, Tryd.ntmps12
      go_wp2_with fail
      go_ret2
      exact ⟨by rw [HP.out]; rfl, Below.refl _ _⟩
    · have HP : Hid (baseP (bl s) = some (ls.getLastD [])) := by show _ = _; unfold baseP; rw [hp]; exact if_neg hne
      have h1 := not_root hp hne
      have g1 := bytes_ne h1
      have hsz := parts_size hp
      obtain ⟨i, b, hl, he, hb, -, -, hm⟩ := parts_split hp hne
      subst hl
      rw [List.getLastD_concat] at HP
      have hle : (mkS i).length + 1 ≤ s.size := by rw [← bl_length, he]; simp
      have HE := hid hp
      have HL := hid (fun w => last_index s w (by omega) (mkS i) b he hb)
      have HM := hid hm
      clear hp hm hb he
      generalize (mkS i).length = k at HP hle HL HM
      go_enter Tryd.func12, Tryd.ntmps12
      go_wp2_with fail
      refine (path_check s _).mono ?_
      rintro e w' ⟨rfl, hb⟩
      have HB := hid hb
      rw [HE.out]
      clear hb
      go_wp2_with fail
      refine (HL.out _).mono ?_
      rintro e w2 ⟨rfl, rfl⟩
      go_wp2_with fail
      go_ret2
      exact ⟨text_ret (drop_text s _) (by rw [HP.out, HM.out]; rfl) (by rw [HP.out]; rfl), HB.out⟩

def HomePost (w : World) (s : ByteArray) (e : Ending) (w' : World) : Prop := e = .returned (.tuple #[txt (homeP (bl s)), .int .i64 (errP (parts (bl s)))]) ∧ Below w.heap.size w w'
set_option maxHeartbeats 1000000 in
theorem path_home (s : ByteArray) (w : World) : Calls Tryd.prog 14 #[.string s] w (HomePost w s) := by
  go_enter Tryd.func14, Tryd.ntmps14
  go_wp2_with fail
  refine (path_parts s _).mono ?_
  rintro e w' ⟨v, rfl, ⟨a, c, rfl, hr, -, hc, hm⟩, hb⟩
  have HB := hid hb
  have HH : Hid (homeP (bl s) = ((parts (bl s)).getD []).headD []) := by
    show _ = _; unfold homeP
    cases parts (bl s) <;> rfl
  have HE : Hid ((parts (bl s)).getD [] ≠ [] → 0 = errP (parts (bl s))) := by
    intro h
    cases e : parts (bl s) with
    | none => rw [e] at h; exact absurd rfl h
    | some x => rfl
  generalize (parts (bl s)).getD [] = ps at HH hr hc HE
  clear hb
  unfold maxLen at hm
  cases ps with
  | nil =>
    go_wp2_with fail
    go_ret2
    exact ⟨text_ret rfl HH.out.symm rfl, HB.out⟩
  | cons p ps =>
    obtain ⟨b, o, rfl, hcell⟩ := hr.at 0 (by simp)
    have hl : 0 < (p :: ps).length := by simp
    simp only [List.map_cons, List.getElem_cons_zero, Nat.add_zero] at hcell
    unfold txt at hcell
    clear hr
    go_wp2_with fail
    go_ret2
    exact ⟨text_ret rfl HH.out.symm (HE.out (by simp)), HB.out⟩

theorem path_under (p q : ByteArray) (w : World) : Calls Tryd.prog 24 #[.string p, .string q] w fun e w' =>
    e = .returned (.tuple #[.bool (underP (bl p) (bl q)), .int .i64 (errP2 (bl p) (bl q))]) ∧ Below w.heap.size w w' := by
  cases hp : parts (bl p) with
  | none =>
    have HU : Hid (underP (bl p) (bl q) = false ∧ errP2 (bl p) (bl q) = 20) := by unfold underP errP2; rw [hp]; exact ⟨rfl, rfl⟩
    have HP := hid hp
    clear hp
    rw [HU.out.1, HU.out.2]
    go_enter Tryd.func24, Tryd.ntmps24
    go_wp2_with fail
    refine (path_check p _).mono ?_
    rintro e w' ⟨rfl, hb⟩
    have HB := hid hb
    rw [HP.out]
    clear hb
    go_wp2_with fail
    go_ret2
    exact ⟨rfl, HB.out⟩
  | some a =>
  cases hq : parts (bl q) with
  | none =>
    have HU : Hid (underP (bl p) (bl q) = false ∧ errP2 (bl p) (bl q) = 20) := by unfold underP errP2; rw [hp, hq]; exact ⟨rfl, rfl⟩
    have HP := hid hp
    have HQ := hid hq
    clear hp hq
    rw [HU.out.1, HU.out.2]
    go_enter Tryd.func24, Tryd.ntmps24
    go_wp2_with fail
    refine (path_check p _).mono ?_
    rintro e w' ⟨rfl, hb⟩
    have HB := hid hb
    rw [HP.out]
    clear hb
    go_wp2_with fail
    refine (path_check q _).mono ?_
    rintro e w2 ⟨rfl, hb⟩
    have HB2 := hid (below_step HB.out HB.out.size hb)
    rw [HQ.out]
    clear hb HB
    go_wp2_with fail
    go_ret2
    exact ⟨rfl, HB2.out⟩
  | some b =>
    have HU : Hid (underP (bl p) (bl q) = ((p.toList == [47]) || (q.toList == p.toList) || Lib.hasPrefix (bl q) (bl p ++ [47])) ∧ errP2 (bl p) (bl q) = 0) := under_text hp hq
    have hsz := parts_size hp
    have HP := hid hp
    have HQ := hid hq
    clear hp hq
    rw [HU.out.1, HU.out.2]
    clear HU
    cases h1 : p.toList == [47] with
    | true =>
      go_enter Tryd.func24, Tryd.ntmps24
      go_wp2_with fail
      refine (path_check p _).mono ?_
      rintro e w' ⟨rfl, hb⟩
      have HB := hid hb
      rw [HP.out]
      clear hb
      go_wp2_with fail
      refine (path_check q _).mono ?_
      rintro e w2 ⟨rfl, hb⟩
      have HB2 := hid (below_step HB.out HB.out.size hb)
      rw [HQ.out]
      clear hb HB
      go_wp2_with fail
      go_ret2
      exact ⟨rfl, HB2.out⟩
    | false =>
    have g1 := bytes_ne h1
    cases h2 : q.toList == p.toList with
    | true =>
      go_enter Tryd.func24, Tryd.ntmps24
      go_wp2_with fail
      refine (path_check p _).mono ?_
      rintro e w' ⟨rfl, hb⟩
      have HB := hid hb
      rw [HP.out]
      clear hb
      go_wp2_with fail
      refine (path_check q _).mono ?_
      rintro e w2 ⟨rfl, hb⟩
      have HB2 := hid (below_step HB.out HB.out.size hb)
      rw [HQ.out]
      clear hb HB
      go_wp2_with fail
      go_ret2
      exact ⟨rfl, HB2.out⟩
    | false =>
    have g2 := bytes_ne h2
    have HT := hid (show bl (p ++ ⟨#[47]⟩) = bl p ++ [47] from by rw [show bl (p ++ ⟨#[47]⟩) = (p ++ ⟨#[47]⟩).data.toList from rfl, ByteArray.data_append, Array.toList_append])
    go_enter Tryd.func24, Tryd.ntmps24
    go_wp2_with fail
    refine (path_check p _).mono ?_
    rintro e w' ⟨rfl, hb⟩
    have HB := hid hb
    rw [HP.out]
    clear hb
    go_wp2_with fail
    refine (path_check q _).mono ?_
    rintro e w2 ⟨rfl, hb⟩
    have HB2 := hid (below_step HB.out HB.out.size hb)
    rw [HQ.out]
    clear hb HB
    go_wp2_with fail
    refine (has_prefix _ _ _).mono ?_
    rintro e w3 ⟨rfl, rfl⟩
    rw [HT.out]
    go_wp2_with fail
    go_ret2
    exact ⟨rfl, HB2.out⟩

/-- A path with names behind it. -/
def joinP (p : List UInt8) (ns : List (List UInt8)) : Option (List UInt8) :=
  match parts p with
  | none => none
  | some ls => if ns.all nameOk then (if (parts (makeS (ls ++ ns))).isSome then some (makeS (ls ++ ns)) else none) else none
theorem make_len : ∀ {ls : List (List UInt8)}, (∀ s ∈ ls, nameOk s = true) → (mkS ls).length ≤ 33 * ls.length
  | [], _ => by simp [mkS]
  | a :: l, h => by
    have h1 := (name_len (h a (by simp))).2
    have h2 := make_len (ls := l) (fun s hs => h s (by simp [hs]))
    have e : mkS (a :: l) = 47 :: (a ++ mkS l) := rfl
    rw [e]; simp only [List.length_cons, List.length_append]; omega
theorem make_len' {ls : List (List UInt8)} (h : ∀ s ∈ ls, nameOk s = true) : (makeS ls).length ≤ 33 * ls.length + 1 := by
  unfold makeS; split
  · simp
  · have := make_len h; omega
theorem trim_suffix (s p : ByteArray) (w : World) (hs : s.size ≤ 9223372036854775807) : Calls Tryd.prog 32 #[.string s, .string p] w fun e w' => e = .returned (txt (Lib.trimSuffix (bl s) (bl p))) ∧ w = w' :=
  (Tryd.strings_TrimSuffix s p w hs).mono fun _ _ ⟨h, k⟩ => ⟨h, k.symm⟩

theorem join_text {t n : List UInt8} {ls p q : List (List UInt8)} (h : t ++ 47 :: n = makeS (ls ++ p ++ [n])) (hq : q = p ++ [n]) : Value.string (ByteArray.mk t.toArray ++ ByteArray.mk #[47] ++ ByteArray.mk n.toArray) = Value.string ⟨(makeS (ls ++ q)).toArray⟩ := by
  subst hq
  rw [← List.append_assoc, ← h]
  refine text_of ?_
  show (ByteArray.mk t.toArray ++ ByteArray.mk #[47] ++ ByteArray.mk n.toArray).data.toList = _
  rw [ByteArray.data_append, ByteArray.data_append, Array.toList_append, Array.toList_append]; simp
set_option maxHeartbeats 2000000 in
theorem path_join (p : ByteArray) (a : Option Addr) (c : Nat) (ns : List (List UInt8)) (w : World) (hr : RowAt w a (ns.map txt)) (hn : ns.length ≤ 140737488355328) :
    Calls Tryd.prog 22 #[.string p, .slice a ns.length c] w (TextPost w (joinP (bl p) ns)) := by
  cases hp : parts (bl p) with
  | none =>
    have HJ : Hid (joinP (bl p) ns = none) := by show _ = _; unfold joinP; rw [hp]
    have HP := hid hp
    clear hp hr
    go_enter Tryd.func22, Tryd.ntmps22
    go_wp2_with fail
    refine (path_check p _).mono ?_
    rintro e w' ⟨rfl, hb⟩
    have HB := hid hb
    rw [HP.out]
    clear hb
    go_wp2_with fail
    go_ret2
    exact ⟨by rw [HJ.out]; rfl, HB.out⟩
  | some ls =>
    have HJ : Hid (joinP (bl p) ns = if ns.all nameOk then (if (parts (makeS (ls ++ ns))).isSome then some (makeS (ls ++ ns)) else none) else none) := by show _ = _; unfold joinP; rw [hp]
    have hls := parts_some hp
    have h8 := hls.2.2.1
    have HN := hid hls.1
    have HE := hid hls.2.1
    have HP := hid hp
    have HRW := hid hr
    clear hp hls hr
    go_enter Tryd.func22, Tryd.ntmps22
    go_wp2_with fail
    refine (path_check p _).mono ?_
    rintro e w' ⟨rfl, hb⟩
    have HB := hid hb
    rw [HP.out, show errP (some ls) = (0 : Int) from rfl]
    clear hb
    go_wp2_with fail
    go_loopw [0, 17] (fun x i wr => ∃ k : Nat, i = .int .i64 k ∧ k ≤ ns.length ∧ x = txt (makeS (ls ++ ns.take k)) ∧ Hid ((ns.take k).all nameOk = true) ∧ Hid (Below w.heap.size w wr)) (fun _ i _ => ns.length - (intOf i).toNat)
    case atStart => exact ⟨0, rfl, Nat.zero_le _, by rw [List.take_zero, List.append_nil, ← HE.out]; rfl, rfl, HB⟩
    case round =>
      clear HB
      obtain ⟨k, rfl, hk, rfl, hall, HB⟩ := hrel
      have hok : ∀ s ∈ ls ++ ns.take k, nameOk s = true := by
        intro s hs
        rcases List.mem_append.1 hs with h | h
        · exact HN.out s h
        · exact List.all_eq_true.1 hall.out s h
      have hlen := make_len' hok
      rw [List.length_append] at hlen
      have htl : (ns.take k).length ≤ k := List.length_take_le _ _
      by_cases hlt : k < ns.length
      · obtain ⟨b, o, rfl, hcell⟩ := HRW.out.at k (by simpa using hlt)
        simp only [List.getElem_map] at hcell
        have hcw := (HB.out.cell (p := ⟨b, o + k, none⟩) (lt_of_cell hcell)).trans hcell
        have hts := hid (take_all ns k hlt)
        have htt := hid (List.take_succ_eq_append_getElem hlt)
        have hfl : Hid (nameOk ns[k] = false → ns.all nameOk = false) := fun h => by
          rw [List.all_eq_false]; exact ⟨ns[k], List.getElem_mem hlt, by simp [h]⟩
        clear hcell HRW
        generalize ns[k] = n at hcw hts hfl htt
        unfold txt at hcw
        have HC := hid (fun w => path_name ⟨n.toArray⟩ w)
        rw [show bl ⟨n.toArray⟩ = n from rfl] at HC
        unfold txt
        go_wp2_with fail
        refine (HC.out _).mono ?_
        rintro e w2 ⟨rfl, hb⟩
        have HB2 := hid (below_step HB.out HB.out.size hb)
        clear hb HB HC hcw
        cases hn : nameOk n with
        | true =>
          have HNM := hid hn
          have hnl := (name_len hn).2
          have HS := hid (make_snoc n hok)
          have HT := hid (fun w => trim_suffix ⟨(makeS (ls ++ ns.take k)).toArray⟩ ⟨#[47]⟩ w (by show (makeS (ls ++ ns.take k)).toArray.size ≤ _; rw [List.size_toArray]; omega))
          rw [show bl ⟨(makeS (ls ++ ns.take k)).toArray⟩ = makeS (ls ++ ns.take k) from rfl, show bl ⟨#[47]⟩ = [47] from rfl] at HT
          have htr : (Lib.trimSuffix (makeS (ls ++ ns.take k)) [47]).length ≤ (makeS (ls ++ ns.take k)).length := by
            unfold Lib.trimSuffix; split
            · rw [List.length_take]; exact Nat.min_le_right _ _
            · exact Nat.le_refl _
          clear hn hok
          generalize Lib.trimSuffix (makeS (ls ++ ns.take k)) [47] = t at HS HT htr
          generalize makeS (ls ++ ns.take k) = m at HT htr hlen
          have hs1 : (ByteArray.mk t.toArray).size = t.length := List.size_toArray
          have hs2 : (ByteArray.mk n.toArray).size = n.length := List.size_toArray
          have hs3 : t.length + 1 ≤ 9223372036854775807 := by omega
          have hs4 : t.length + 1 + n.length ≤ 9223372036854775807 := by omega
          go_wp2_with fail
          refine (HT.out _).mono ?_
          rintro e w3 ⟨rfl, rfl⟩
          unfold txt
          go_wp2_with fail
          go_roundw
          case rel => exact ⟨k + 1, by go_num, by omega, join_text HS.out htt.out, by rw [hts.out, hall.out, HNM.out]; rfl, HB2⟩
          case measure => simp [intOf]; omega
        | false =>
          have HF := hid (hfl.out hn)
          clear hn hok
          go_wp2_with fail
          go_ret2
          have e := HJ.out
          rw [HF.out, if_neg (by simp)] at e
          exact ⟨by rw [e]; rfl, HB2.out⟩
      · obtain rfl : k = ns.length := by omega
        rw [List.take_length] at hall
        rw [List.take_length]
        have e := HJ.out
        rw [hall.out, if_pos rfl] at e
        have HJ2 := hid e
        clear e HRW htl hlen HJ
        generalize makeS (ls ++ ns) = m at HJ2
        unfold txt
        go_wp2_with fail
        refine (path_check ⟨m.toArray⟩ _).mono ?_
        rintro e w2 ⟨rfl, hb⟩
        rw [show bl ⟨m.toArray⟩ = m from rfl]
        have HB2 := hid (below_step HB.out HB.out.size hb)
        clear hb HB
        cases hm : parts m with
        | none =>
          rw [hm] at HJ2
          have HJ3 := HJ2
          clear hm
          go_wp2_with fail
          go_ret2
          exact ⟨by rw [HJ3.out]; rfl, HB2.out⟩
        | some x =>
          rw [hm] at HJ2
          have HJ3 := HJ2
          clear hm
          go_wp2_with fail
          go_ret2
          exact ⟨by rw [HJ3.out]; rfl, HB2.out⟩
end Go.Proofs.YtjbmphkoafkgfaaDoor
