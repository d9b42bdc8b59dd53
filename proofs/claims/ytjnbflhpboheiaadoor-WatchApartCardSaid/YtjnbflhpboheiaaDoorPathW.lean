/-
  Package path: Parts, Check, Parent, Base, Home, Join, Under.
-/
import Derived.Test.YtjnbflhpboheiaaDoorPathN
import Derived.Test.YtjnbflhpboheiaaDoorShelf
import Derived.Outline
namespace Go.Proofs.YtjnbflhpboheiaaDoor
open Go.RowKit
set_option maxRecDepth 20000
set_option linter.unusedVariables false

theorem split_one (s : ByteArray) (w : World) (hs : s.size < 4294967281) : Calls Tryd.prog 46 #[.string s, .string ⟨#[47]⟩] w fun e w' =>
    e = .returned (.slice (some ⟨w.heap.size, 0, none⟩) (cutS (bl s)).length (cutS (bl s)).length) ∧ w' = w.alloc (.cells ((cutS (bl s)).map txt).toArray 9) := by
  have hlen := Lib.splitB_all ⟨#[47]⟩ (by decide) 0 _ s rfl
  have c : Calls Tryd.prog 48 #[.string s, .string ⟨#[47]⟩, .int .i64 0, .int .i64 (-1)] w fun e w' =>
      e = .returned (.slice (some ⟨w.heap.size, 0, none⟩) (Lib.splitB ⟨#[47]⟩ 0 (Lib.countB s ⟨#[47]⟩ + 1 - 1) s).length (Lib.countB s ⟨#[47]⟩ + 1)) ∧ w' = w.alloc (.cells (Lib.cellsOf (Lib.splitB ⟨#[47]⟩ 0 (Lib.countB s ⟨#[47]⟩ + 1 - 1) s) (Lib.countB s ⟨#[47]⟩ + 1)) 9) :=
    Any.strings_genSplit_core { Tryd.lays146 with } (by kernel_rfl) s ⟨#[47]⟩ 0 (-1) (Lib.countB s ⟨#[47]⟩ + 1) w hs (by decide) (Nat.zero_le _)
      (fun x c _ => by
        have h := Tryd.strings_Index_one x 47 (w.alloc (.cells c 9))
        refine h.mono fun e w' ⟨he, hw⟩ => ⟨?_, hw⟩
        rw [he]
        show _ = Ending.returned (Value.int .i64 (Lib.index x.data.toList [47]))
        rw [Lib.index_one])
      (by
        refine (Tryd.strings_Count_one s 47 w).mono fun e w' ⟨he, hw⟩ => ⟨?_, hw⟩
        rw [he]
        show _ = Ending.returned (Value.int .i64 ((Lib.count s.data.toList [47] : Nat) : Int))
        rw [Lib.count_one]
        rfl) (by decide) (by decide) (by rw [if_pos (by decide)]; have := Lib.countB_le ⟨#[47]⟩ (by decide) s.size s (Nat.le_refl _); omega)
  rw [Nat.add_sub_cancel, hlen] at c
  have e2 : Lib.cellsOf (Lib.splitB ⟨#[47]⟩ 0 (Lib.countB s ⟨#[47]⟩) s) (Lib.countB s ⟨#[47]⟩ + 1) = ((Lib.splitB ⟨#[47]⟩ 0 (Lib.countB s ⟨#[47]⟩) s).map Value.string).toArray := by rw [← hlen]; exact Lib.cellsOf_full _
  have e3 : Lib.countB s ⟨#[47]⟩ + 1 = (cutS (bl s)).length := by rw [← hlen, ← splitB_cut s, List.length_map]
  rw [e2, map_txt, splitB_cut s, e3] at c
  have HC := hid c
  clear c hlen e2 e3
  go_enter Tryd.func46, Tryd.ntmps46
  go_wp2_with fail
  refine HC.out.mono ?_
  rintro e w' ⟨rfl, hw⟩
  rw [hw]
  go_wp2_with fail
  go_ret
  exact ⟨rfl, rfl⟩

theorem has_prefix (s p : ByteArray) (w : World) : Calls Tryd.prog 45 #[.string s, .string p] w fun e w' => e = .returned (.bool (Lib.hasPrefix (bl s) (bl p))) ∧ w = w' :=
  (Tryd.strings_HasPrefix s p w).mono fun _ _ ⟨h, k⟩ => ⟨h, k.symm⟩

/-- v is a slice of these texts. -/
def IsTexts (w : World) (v : Value) (l : List (List UInt8)) : Prop := ∃ a c, v = .slice a l.length c ∧ RowAt w a (l.map txt) ∧ (a = none → c = 0) ∧ l.length ≤ c ∧ c ≤ maxLen
theorem IsTexts.below {w w' : World} {v : Value} {l : List (List UInt8)} (h : IsTexts w v l) (hb : Below w.heap.size w w') : IsTexts w' v l := by
  obtain ⟨a, c, rfl, hr, h0, h1, h2⟩ := h
  exact ⟨a, c, rfl, hr.below hb, h0, h1, h2⟩
theorem IsTexts.nil (w : World) : IsTexts w (.slice none 0 0) [] := ⟨none, 0, rfl, RowAt.nil _ _, fun _ => rfl, Nat.le_refl _, Nat.zero_le _⟩
/-- The error's number: 20 where there are no names. -/
def errP {α : Type} (o : Option α) : Int := if o.isSome then 0 else 20
def PartsPost (w : World) (s : ByteArray) (e : Ending) (w' : World) : Prop := ∃ v, e = .returned (.tuple #[v, .int .i64 (errP (parts (bl s)))]) ∧ IsTexts w' v ((parts (bl s)).getD []) ∧ Below w.heap.size w w'

theorem bl_length (s : ByteArray) : (bl s).length = s.size := by rw [Array.length_toList]; rfl
theorem parts_root {s : ByteArray} (h : (s.toList == [47]) = true) : parts (bl s) = some [] := by
  rw [beq_iff_eq, Lib.toList_data] at h
  unfold parts; rw [if_pos h]
theorem parts_long {s : ByteArray} (h : (s.toList == [47]) = false) (hl : 128 < s.size) : parts (bl s) = none := by
  have h := bytes_ne h
  rw [Lib.toList_data] at h
  unfold parts; rw [if_neg h, if_pos (.inl (by rw [bl_length]; exact hl))]
theorem parts_head {s : ByteArray} (h : (s.toList == [47]) = false) (hl : Lib.hasPrefix (bl s) [47] = false) : parts (bl s) = none := by
  have h := bytes_ne h
  rw [Lib.toList_data] at h
  unfold parts; rw [if_neg h, if_pos]
  right
  intro e
  have : Lib.hasPrefix (bl s) [47] = true := by
    cases e2 : bl s with
    | nil => rw [e2] at e; simp at e
    | cons a b => rw [e2] at e; simp at e; subst e; simp [Lib.hasPrefix, List.isPrefixOf]
  rw [this] at hl; cases hl
theorem parts_body {s : ByteArray} (h : (s.toList == [47]) = false) (hl : ¬ 128 < s.size) (hp : Lib.hasPrefix (bl s) [47] = true) :
    parts (bl s) = if (cutS (bl s).tail).length > 8 then none else if (cutS (bl s).tail).all nameOk then some (cutS (bl s).tail) else none := by
  have h := bytes_ne h
  rw [Lib.toList_data] at h
  unfold parts; rw [if_neg h, if_neg]
  rintro (g | g)
  · rw [bl_length] at g; exact hl g
  · cases e2 : bl s with
    | nil => rw [e2] at hp; cases hp
    | cons a b => rw [e2] at hp g; simp [Lib.hasPrefix, List.isPrefixOf] at hp; simp at g; exact g hp.symm

theorem take_all (ps : List (List UInt8)) (k : Nat) (h : k < ps.length) : (ps.take (k + 1)).all nameOk = ((ps.take k).all nameOk && nameOk ps[k]) := by
  rw [List.take_succ_eq_append_getElem h, List.all_append]; simp
theorem prefix_some {s : ByteArray} {c : UInt8} {l : List UInt8} (h : Lib.hasPrefix (bl s) (c :: l) = true) : 1 ≤ s.size := by
  rw [← bl_length]
  cases e : bl s with
  | nil => rw [e] at h; cases h
  | cons a b => simp

set_option maxHeartbeats 2000000 in
theorem path_parts (s : ByteArray) (w : World) : Calls Tryd.prog 41 #[.string s] w (PartsPost w s) := by
  cases h1 : s.toList == [47] with
  | true =>
    have HP := hid (parts_root h1)
    go_enter Tryd.func41, Tryd.ntmps41
    go_wp2_with fail
    go_ret2
    exact ⟨_, by rw [HP.out]; rfl, by rw [HP.out]; exact IsTexts.nil _, Below.refl _ _⟩
  | false =>
  have g1 := bytes_ne h1
  by_cases h2 : 128 < s.size
  · have HP := hid (parts_long h1 h2)
    go_enter Tryd.func41, Tryd.ntmps41
    go_wp2_with fail
    go_ret2
    exact ⟨_, by rw [HP.out]; rfl, by rw [HP.out]; exact IsTexts.nil _, Below.refl _ _⟩
  cases h3 : Lib.hasPrefix (bl s) [47] with
  | false =>
    have HP := hid (parts_head h1 h3)
    have H3 := hid h3
    clear h3
    go_enter Tryd.func41, Tryd.ntmps41
    go_wp2_with fail
    refine (has_prefix _ _ _).mono ?_
    rintro e w' ⟨rfl, rfl⟩
    rw [H3.out]
    go_wp2_with fail
    go_ret2
    exact ⟨_, by rw [HP.out]; rfl, by rw [HP.out]; exact IsTexts.nil _, Below.refl _ _⟩
  | true =>
  have HP := hid (parts_body h1 h2 h3)
  have h0 : 1 ≤ s.size := prefix_some h3
  have HT : Hid (bl (s.extract 1 s.size) = (bl s).tail) := by
    show (s.extract 1 s.size).data.toList = _
    rw [Lib.extract_to_end, List.drop_one]
  have H3 := hid h3
  clear h3
  go_enter Tryd.func41, Tryd.ntmps41
  go_wp2_with fail
  refine (has_prefix _ _ _).mono ?_
  rintro e w' ⟨rfl, rfl⟩
  rw [H3.out]
  go_wp2_with fail
  refine (split_one _ _ (by rw [ByteArray.size_extract]; omega)).mono ?_
  rintro e w' ⟨rfl, hw⟩
  rw [HT.out] at hw
  rw [HT.out]
  have HR := hid (show RowAt w' (some ⟨w.heap.size, 0, none⟩) ((cutS (bl s).tail).map txt) from by rw [hw]; exact RowAt.new _ _ _ _)
  have HB := hid (show Below w.heap.size w w' from by rw [hw]; exact below_new _)
  clear hw HT
  generalize cutS (bl s).tail = ps at HP HR
  by_cases h8 : 8 < ps.length
  · go_wp2_with fail
    go_ret2
    have e := HP.out
    rw [if_pos h8] at e
    exact ⟨_, by rw [e]; rfl, by rw [e]; exact IsTexts.nil _, HB.out⟩
  have HP2 : Hid (parts (bl s) = if ps.all nameOk then some ps else none) := by show _ = _; rw [HP.out, if_neg h8]
  clear HP
  clear h1 g1 h2 H3 h0
  go_wp2_with fail
  go_loopw [25] (fun i wr => ∃ k : Nat, i = .int .i64 k ∧ k ≤ ps.length ∧ Hid ((ps.take k).all nameOk = true) ∧ Hid (Below w.heap.size w wr) ∧ Hid (RowAt wr (some ⟨w.heap.size, 0, none⟩) (ps.map txt))) (fun i _ => ps.length - (intOf i).toNat)
  case atStart => exact ⟨0, rfl, Nat.zero_le _, rfl, HB, HR⟩
  case round =>
    clear HB HR
    obtain ⟨k, rfl, hk, hall, HB, HR⟩ := hrel
    by_cases hlt : k < ps.length
    · obtain ⟨b, o, e, hcell⟩ := HR.out.at k (by simpa using hlt)
      simp only [Option.some.injEq, Addr.mk.injEq] at e
      obtain ⟨rfl, rfl, _⟩ := e
      simp only [List.getElem_map, Nat.zero_add] at hcell
      have hts := hid (take_all ps k hlt)
      have hfl : Hid (nameOk ps[k] = false → ps.all nameOk = false) := fun h => by
        rw [List.all_eq_false]; exact ⟨ps[k], List.getElem_mem hlt, by simp [h]⟩
      generalize ps[k] = n at hcell hts hfl
      unfold txt at hcell
      have HC := hid (fun w => path_name ⟨n.toArray⟩ w)
      rw [show bl ⟨n.toArray⟩ = n from rfl] at HC
      go_wp2_with fail
      refine (HC.out _).mono ?_
      rintro e w2 ⟨rfl, hb⟩
      have HB2 := hid (below_step HB.out HB.out.size hb)
      have HR2 := hid (HR.out.below hb)
      clear hb HB HR HC hcell
      cases hn : nameOk n with
      | true =>
        have HN := hid hn
        clear hn
        go_wp2_with fail
        go_roundw
        case rel => exact ⟨k + 1, by go_num, by omega, by rw [hts.out, hall.out, HN.out]; rfl, HB2, HR2⟩
        case measure => simp [intOf]; omega
      | false =>
        have HF := hid (hfl.out hn)
        clear hn
        go_wp2_with fail
        go_ret2
        have e := HP2.out
        rw [HF.out, if_neg (by simp)] at e
        exact ⟨_, by rw [e]; rfl, by rw [e]; exact IsTexts.nil _, HB2.out⟩
    · obtain rfl : k = ps.length := by omega
      rw [List.take_length] at hall
      go_wp2_with fail
      go_ret2
      have e := HP2.out
      rw [hall.out, if_pos rfl] at e
      exact ⟨_, by rw [e]; rfl, by rw [e]; exact ⟨_, _, rfl, HR.out, by simp, Nat.le_refl _, by unfold maxLen; show ps.length ≤ _; omega⟩, HB.out⟩
end Go.Proofs.YtjnbflhpboheiaaDoor
