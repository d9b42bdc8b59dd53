/-
  disk.rightName, althingref03.Name.
-/
import Derived.Test.YtibhkkfbhbnmeaaDskP
import Derived.Test.YtibhkkfbhbnmeaaJoin
import Derived.Test.YtibhkkfbhbnmeaaOwn
import Derived.Lib.ConvBytes
import Derived.WalkLawsBesides
import Derived.Lib.Strings
namespace Go.Proofs.Ytibhkkfbhbnmeaa
open Go.RowKit
set_option maxRecDepth 20000
set_option linter.unusedVariables false

theorem name_ch (c : UInt8) (w : World) : Calls Try.prog 41 #[byt c] w fun e w' => e = .returned (.bool (!nameC c.toNat)) ∧ w = w' := by
  have hc := c.toNat_lt
  unfold byt
  generalize c.toNat = n at *
  go_enter Try.func41, Try.ntmps41
  go_wp2
  all_goals
    go_ret
    refine ⟨ret_v ?_, rfl⟩
    show Value.bool _ = Value.bool _
    congr 1
    rw [Bool.eq_iff_iff]
    simp [nameC] <;> omega

/-- The first byte that a name may not have. -/
def badAt : List UInt8 → Nat → Int
  | [], _ => -1
  | c :: l, i => if nameC c.toNat then badAt l (i + 1) else i
theorem badAt_all : ∀ (l : List UInt8) (i : Nat), (0 ≤ badAt l i) ↔ l.all (fun c => nameC c.toNat) = false
  | [], i => by simp [badAt]
  | c :: l, i => by
    unfold badAt
    cases h : nameC c.toNat with
    | true => rw [if_pos rfl, List.all_cons, h, Bool.true_and]; exact badAt_all l (i + 1)
    | false => rw [if_neg (by simp), List.all_cons, h, Bool.false_and]; simp
theorem badAt_drop (l : List UInt8) (k : Nat) (h : k < l.length) : badAt (l.drop k) k = if nameC l[k].toNat then badAt (l.drop (k + 1)) (k + 1) else k := by
  rw [List.drop_eq_getElem_cons h]
  generalize l[k] = c
  generalize l.drop (k + 1) = r
  rfl

theorem index_ch (a : Option Addr) (c : Nat) (l : List UInt8) (w : World) (hr : RowAt w a (l.map byt)) (hm : l.length ≤ 4611686018427387904) :
    Calls Try.prog 45 #[.slice a l.length c, .func (.func 41) #[] #[]] w fun e w' => e = .returned (.int .i64 (badAt l 0)) ∧ w = w' := by
  have HR := hid hr
  clear hr
  go_enter Try.func45, Try.ntmps45
  go_wp2_with fail
  go_loop [8] (fun i => ∃ k : Nat, i = .int .i64 k ∧ k ≤ l.length ∧ Hid (badAt l 0 = badAt (l.drop k) k)) (fun i => l.length - (intOf i).toNat)
  case atStart => exact ⟨0, rfl, Nat.zero_le _, rfl⟩
  case round =>
    obtain ⟨k, rfl, hk, HT⟩ := hrel
    by_cases hlt : k < l.length
    · obtain ⟨b, o, rfl, hc⟩ := HR.out.at k (by simpa using hlt)
      simp only [List.getElem_map] at hc
      have HD := hid (badAt_drop l k hlt)
      clear HR
      generalize l[k] = x at *
      have hcall := name_ch x w
      cases hx : nameC x.toNat with
      | true =>
        rw [hx] at hcall HD
        have HX : Hid (badAt l 0 = badAt (l.drop (k + 1)) (k + 1)) := by show _ = _; rw [HT.out, HD.out]; rfl
        clear hx HT HD
        go_wp2_with fail
        refine hcall.mono ?_
        rintro e w' ⟨rfl, rfl⟩
        go_wp2_with fail
        go_round
        case rel => exact ⟨k + 1, by go_num, by omega, HX⟩
        case measure => simp [intOf]; omega
      | false =>
        rw [hx] at hcall HD
        have HX : Hid (badAt l 0 = k) := by show _ = _; rw [HT.out, HD.out]; rfl
        clear hx HT HD
        go_wp2_with fail
        refine hcall.mono ?_
        rintro e w' ⟨rfl, rfl⟩
        go_wp2_with fail
        go_ret
        exact ⟨by rw [HX.out]; rfl, rfl⟩
    · have HX : Hid (badAt l 0 = -1) := by show _ = _; rw [HT.out, List.drop_of_length_le (by omega)]; rfl
      clear HT
      go_wp2_with fail
      go_ret
      exact ⟨by rw [HX.out]; rfl, rfl⟩

theorem contains_ch (a : Option Addr) (c : Nat) (l : List UInt8) (w : World) (hr : RowAt w a (l.map byt)) (hm : l.length ≤ 4611686018427387904) :
    Calls Try.prog 40 #[.slice a l.length c, .func (.func 41) #[] #[]] w fun e w' => e = .returned (.bool (!l.all fun c => nameC c.toNat)) ∧ w = w' := by
  have HB := hid (badAt_all l 0)
  have HI := hid (index_ch a c l w hr hm)
  clear hr
  generalize badAt l 0 = z at *
  generalize (l.all fun c => nameC c.toNat) = q at *
  go_enter Try.func40, Try.ntmps40
  go_wp2_with fail
  refine HI.out.mono ?_
  rintro e w' ⟨rfl, rfl⟩
  go_wp2_with fail
  go_ret
  refine ⟨ret_v ?_, rfl⟩
  have h := HB.out
  cases q with
  | true => simp only [Bool.true_eq_false, iff_false] at h; simpa using h
  | false => simp only [iff_true] at h; simpa using h

/-- A text's bytes. -/
theorem bytesW_below (w : World) (e : TypeId) (s : ByteArray) : Below w.heap.size w (Lib.bytesWorld w e s) :=
  ⟨rfl, rfl, rfl, by rw [Lib.bytesWorld_size]; omega, fun k hk => Lib.bytesWorld_at_old w e s k hk⟩
theorem bytesW_is (w : World) (s : ByteArray) (hm : s.size ≤ maxLen) : IsBytes (Lib.bytesWorld w 5 s) (.slice (some ⟨w.heap.size, 0, none⟩) s.size (grownCap w s.size 0 5)) s.data.toList := by
  have hsz : s.data.toList.length = s.size := by rw [Array.length_toList]; rfl
  refine ⟨_, _, by rw [hsz], ?_, by simp, by rw [hsz]; exact grownCap_ge w _ 0 _, grownCap_le_maxLen w _ 0 _ ?_⟩
  · intro j v hj
    refine ⟨_, _, rfl, ?_⟩
    obtain ⟨hj1, e⟩ := List.getElem?_eq_some_iff.1 hj
    simp only [List.length_map] at hj1
    rw [Nat.zero_add, Lib.bytesWorld_cell w _ s j (by omega), ← e, List.getElem_map]
    have hj2 : j < s.data.size := by simpa using hj1
    simp [List.getD_eq_getElem?_getD, Array.getElem?_eq_getElem hj2]
  · exact hm

theorem text_empty {s : ByteArray} (h : s.size < 1) : s.toList = [] ∧ s.toList.isEmpty = true := by
  have : s.toList = [] := by
    apply List.eq_nil_of_length_eq_zero
    rw [Lib.toList_data, Array.length_toList]
    show s.size = 0
    omega
  rw [this]; exact ⟨rfl, rfl⟩
theorem text_some {s : ByteArray} (h : ¬ s.size < 1) : s.toList.isEmpty = false ∧ ¬ s.toList = [] := by
  have : ¬ s.toList = [] := by
    intro e
    have := congrArg List.length e
    rw [Lib.toList_data, Array.length_toList] at this
    exact h (show s.size < 1 by have : s.size = 0 := this; omega)
  refine ⟨?_, this⟩
  cases e : s.toList with
  | nil => exact absurd e this
  | cons a b => rfl


theorem right_name (s : ByteArray) (w : World) : Calls Try.prog 28 #[.string s] w fun e w' => e = .returned (.bool (fname s.data.toList)) ∧ Below w.heap.size w w' := by
  have hsz : s.data.toList.length = s.size := by rw [Array.length_toList]; rfl
  have HS := hid hsz
  clear hsz
  by_cases h0 : s.size < 1
  · obtain ⟨t1, t2⟩ := text_empty h0
    have hf : fname s.data.toList = false := by unfold fname; rw [HS.out]; simp; omega
    rw [hf]
    clear hf h0
    go_enter Try.func28, Try.ntmps28
    go_wp2_with fail
    go_ret
    exact ⟨rfl, Below.refl _ _⟩
  · obtain ⟨t1, t2⟩ := text_some h0
    by_cases h1 : 40 < s.size
    · have hf : fname s.data.toList = false := by unfold fname; rw [HS.out]; simp; omega
      rw [hf]
      clear hf h0
      go_enter Try.func28, Try.ntmps28
      go_wp2_with fail
      go_ret
      exact ⟨rfl, Below.refl _ _⟩
    · have hf : fname s.data.toList = s.data.toList.all fun c => nameC c.toNat := by
        unfold fname
        rw [HS.out, decide_eq_true (by omega), decide_eq_true (by omega), Bool.true_and, Bool.true_and]
      rw [hf]
      have hcv := Lib.run_convert_string_bytes (P := Try.prog) w 9 32 5 s Try.underlying9 Try.underlying32 Try.underlying5
      have HB := bytesW_is w s (by unfold maxLen; omega)
      have HW := hid (bytesW_below w 5 s)
      obtain ⟨a', c', e', hr', -⟩ := HB
      simp only [Value.slice.injEq] at e'
      obtain ⟨rfl, -, rfl⟩ := e'
      have HR := hid hr'
      have HL : Hid (s.data.toList.length ≤ 4611686018427387904) := by show _ ≤ _; rw [HS.out]; omega
      have h2 : s.size ≤ 40 := by omega
      have HC := hid (contains_ch _ (grownCap w s.size 0 5) s.data.toList _ HR.out HL.out)
      rw [HS.out] at HC
      generalize (s.data.toList.all fun c => nameC c.toNat) = q at *
      clear hf hr' h0 h1 HR HL
      go_enter Try.func28, Try.ntmps28
      go_wp2_with fail
      refine HC.out.mono ?_
      rintro e w1 ⟨rfl, rfl⟩
      go_wp2_with fail
      go_ret
      exact ⟨ret_v (by simp), HW.out⟩

theorem ref_name (s : ByteArray) (w : World) (hm : s.size ≤ 1048576) : Calls Try.prog 29 #[.string s] w fun e w' => e = .returned (.bool (fname s.data.toList)) ∧ w = w' := by
  have hsz : s.data.toList.length = s.size := by rw [Array.length_toList]; rfl
  have HS := hid hsz
  clear hsz
  by_cases h0 : s.size < 1
  · have hf : fname s.data.toList = false := by unfold fname; rw [HS.out]; simp; omega
    rw [hf]
    clear hf
    go_enter Try.func29, Try.ntmps29
    go_wp2_with fail
    go_ret
    exact ⟨rfl, rfl⟩
  · by_cases h1 : 40 < s.size
    · have hf : fname s.data.toList = false := by unfold fname; rw [HS.out]; simp; omega
      rw [hf]
      clear hf
      go_enter Try.func29, Try.ntmps29
      go_wp2_with fail
      go_ret
      exact ⟨rfl, rfl⟩
    · have hf : fname s.data.toList = s.data.toList.all fun c => nameC c.toNat := by
        unfold fname
        rw [HS.out, decide_eq_true (by omega), decide_eq_true (by omega), Bool.true_and, Bool.true_and]
      rw [hf]
      have HF := hid (show (s.data.toList.all fun c => nameC c.toNat) = (s.data.toList.drop 0).all fun c => nameC c.toNat from rfl)
      clear hf
      generalize hq : (s.data.toList.all fun c => nameC c.toNat) = q at *
      clear hq
      go_enter Try.func29, Try.ntmps29
      go_wp2_with fail
      go_loop [3] (fun i => ∃ k : Nat, i = .int .i64 k ∧ k ≤ s.size ∧ Hid (q = (s.data.toList.drop k).all fun c => nameC c.toNat)) (fun i => s.size - (intOf i).toNat)
      case atStart => exact ⟨0, rfl, Nat.zero_le _, HF⟩
      case round =>
        clear HF
        obtain ⟨k, rfl, hk, HT⟩ := hrel
        by_cases hlt : k < s.size
        · have hlt2 : k < s.data.toList.length := by rw [HS.out]; exact hlt
          have HD : Hid (q = (nameC s[k].toNat && (s.data.toList.drop (k + 1)).all fun c => nameC c.toNat)) := by
            show _ = _
            rw [HT.out, List.drop_eq_getElem_cons hlt2, List.all_cons]; rfl
          have hc := s[k].toNat_lt
          have h256 : s[k].toNat < 256 := by simpa using hc
          have HT2 : Hid (nameC s[k].toNat = true → q = (s.data.toList.drop (k + 1)).all fun c => nameC c.toNat) := fun h => by rw [HD.out, h, Bool.true_and]
          have HF2 : Hid (nameC s[k].toNat = false → q = false) := fun h => by rw [HD.out, h, Bool.false_and]
          clear HT HD hc
          go_wp2_with fail
          all_goals first
            | (go_ret
               have hn : nameC s[k].toNat = false := by
                 clear HT2 HF2
                 unfold nameC
                 simp at *
                 omega
               exact ⟨by rw [HF2.out hn]; rfl, rfl⟩)
            | (have hn : nameC s[k].toNat = true := by
                 clear HT2 HF2
                 unfold nameC
                 simp at *
                 omega
               go_round
               case rel => exact ⟨k + 1, by go_num, by omega, HT2.out hn⟩
               case measure => simp [intOf]; omega)
        · have HQ : Hid (q = true) := by show _ = _; rw [HT.out, List.drop_of_length_le (by rw [HS.out]; omega)]; rfl
          clear HT
          go_wp2_with fail
          go_ret
          exact ⟨by rw [HQ.out]; rfl, rfl⟩
end Go.Proofs.Ytibhkkfbhbnmeaa
