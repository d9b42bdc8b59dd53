/-
  The document's paths: Parts, Make, Parent, Base, Home, Join, Under, SameTexts.
-/
import Derived.Test.YtjnbflhpboheiaaDoorPathW3
import Derived.Test.YtjnbflhpboheiaaDoorPathNR
import Derived.RegionTactic
namespace Go.Proofs.YtjnbflhpboheiaaDoor
open Go.RowKit
set_option maxRecDepth 20000
set_option linter.unusedVariables false

/-- How far the document's Parts is: k bytes are seen, the names ahead of f are out. -/
def Scan (p : List UInt8) (f k : Nat) (out : List (List UInt8)) : Prop :=
  out.all nameOk = true ∧ out.length < k ∧ 1 ≤ f ∧ f ≤ k ∧ ((k ≤ p.length ∧ out ++ cutS (p.drop f) = cutS (p.drop 1) ∧ (47 : UInt8) ∉ (p.drop f).take (k - f)) ∨ (k = p.length + 1 ∧ out = cutS (p.drop 1)))
theorem scan_start {p : List UInt8} (h : 1 ≤ p.length) : Scan p 1 1 [] := ⟨rfl, by simp, Nat.le_refl _, Nat.le_refl _, .inl ⟨h, rfl, by simp⟩⟩
theorem drop_take_succ (p : List UInt8) (f k : Nat) (h : k < p.length) (hf : f ≤ k) : (p.drop f).take (k + 1 - f) = (p.drop f).take (k - f) ++ [p[k]] := by
  rw [show k + 1 - f = (k - f) + 1 from by omega, List.take_succ_eq_append_getElem (by rw [List.length_drop]; omega), List.getElem_drop]
  congr 3; omega
theorem drop_split (p : List UInt8) (f k : Nat) (h : k < p.length) (hf : f ≤ k) : p.drop f = (p.drop f).take (k - f) ++ p[k] :: p.drop (k + 1) := by
  conv => lhs; rw [← List.take_append_drop (k - f) (p.drop f)]
  congr 1
  rw [List.drop_drop, show f + (k - f) = k from by omega, List.drop_eq_getElem_cons h]
theorem scan_skip {p : List UInt8} {f k : Nat} {out : List (List UInt8)} (s : Scan p f k out) (h : k < p.length) (hc : p[k] ≠ 47) : Scan p f (k + 1) out := by
  obtain ⟨h1, h2, h3, h4, h5⟩ := s
  refine ⟨h1, by omega, h3, by omega, .inl ?_⟩
  rcases h5 with ⟨_, e, hn⟩ | ⟨e, _⟩
  · refine ⟨by omega, e, ?_⟩
    rw [drop_take_succ p f k h h4]
    simp only [List.mem_append, List.mem_singleton, not_or]
    exact ⟨hn, fun e => hc e.symm⟩
  · omega
theorem scan_piece {p : List UInt8} {f k : Nat} {out : List (List UInt8)} (s : Scan p f k out) (h : k < p.length) (hc : p[k] = 47) :
    (nameOk ((p.drop f).take (k - f)) = true → Scan p (k + 1) (k + 1) (out ++ [(p.drop f).take (k - f)])) ∧ (nameOk ((p.drop f).take (k - f)) = false → (cutS (p.drop 1)).all nameOk = false) := by
  obtain ⟨h1, h2, h3, h4, h5⟩ := s
  rcases h5 with ⟨_, e, hn⟩ | ⟨e, _⟩
  rotate_left
  · omega
  have e2 : cutS (p.drop f) = (p.drop f).take (k - f) :: cutS (p.drop (k + 1)) := by
    conv => lhs; rw [drop_split p f k h h4, hc]
    exact cutS_piece _ _ hn
  refine ⟨fun hk => ⟨?_, ?_, by omega, Nat.le_refl _, .inl ⟨by omega, ?_, by simp⟩⟩, fun hk => ?_⟩
  · rw [List.all_append, h1]; simp [hk]
  · simp; omega
  · rw [← e, e2]; simp
  · rw [← e, e2, List.all_eq_false]
    exact ⟨(p.drop f).take (k - f), by simp, by simp [hk]⟩
theorem scan_last {p : List UInt8} {f k : Nat} {out : List (List UInt8)} (s : Scan p f k out) (h : k = p.length) :
    (nameOk ((p.drop f).take (k - f)) = true → Scan p (k + 1) (k + 1) (out ++ [(p.drop f).take (k - f)])) ∧ (nameOk ((p.drop f).take (k - f)) = false → (cutS (p.drop 1)).all nameOk = false) := by
  obtain ⟨h1, h2, h3, h4, h5⟩ := s
  rcases h5 with ⟨_, e, hn⟩ | ⟨e, _⟩
  rotate_left
  · omega
  have ht : (p.drop f).take (k - f) = p.drop f := by rw [List.take_of_length_le (by rw [List.length_drop]; omega)]
  rw [ht] at hn ⊢
  have e2 := cutS_last _ hn
  refine ⟨fun hk => ⟨?_, ?_, by omega, Nat.le_refl _, .inr ⟨by omega, ?_⟩⟩, fun hk => ?_⟩
  · rw [List.all_append, h1]; simp [hk]
  · simp; omega
  · rw [← e, e2]
  · rw [← e, e2, List.all_eq_false]
    exact ⟨p.drop f, by simp, by simp [hk]⟩
theorem scan_end {p : List UInt8} {f k : Nat} {out : List (List UInt8)} (s : Scan p f k out) (h : ¬ k ≤ p.length) : out = cutS (p.drop 1) ∧ (cutS (p.drop 1)).all nameOk = true := by
  obtain ⟨h1, h2, h3, h4, h5⟩ := s
  rcases h5 with ⟨e, _⟩ | ⟨_, e⟩
  · omega
  · exact ⟨e, by rw [← e]; exact h1⟩

theorem infoS : (Tryd.prog.info? 9).map (fun i => (i.zero, i.size, i.bytes)) = some (some (.string ByteArray.empty), 1, 16) := by kernel_rfl
theorem owns_texts {w : World} {base : Nat} {e : TypeId} {v : Value} {l : List (List UInt8)} (h : w.ownsRow base e 1 v (l.map txt).length (l.map txt)) : IsTexts w v l := by
  have h' := h
  obtain ⟨a, c, rfl, hr, h1, h2⟩ := owns_row h
  rw [List.length_map] at h1
  refine ⟨a, c, by rw [List.length_map], hr, ?_, h1, h2⟩
  intro ha
  subst ha
  rcases h'.2 with ⟨e, _⟩ | ⟨g, cap, cur, e, _⟩
  · simp only [Value.slice.injEq] at e; exact e.2.2
  · simp at e
def RPartsPost (w : World) (s : ByteArray) (e : Ending) (w' : World) : Prop := ∃ v, e = .returned (.tuple #[v, .bool (parts (bl s)).isSome]) ∧ IsTexts w' v ((parts (bl s)).getD []) ∧ Below w.heap.size w w'

theorem extract_text (s : ByteArray) (f k : Nat) : bl (s.extract f k) = ((bl s).drop f).take (k - f) := by
  show (s.extract f k).data.toList = _
  rw [Lib.extract_data]

theorem app_text {w : World} {base : Nat} {e : TypeId} {v : Value} {out : List (List UInt8)} {x : ByteArray} {l : List UInt8} (hx : bl x = l)
    (h : w.ownsRow base e 1 v (out.map txt ++ [Value.string x]).length (out.map txt ++ [Value.string x])) : w.ownsRow base e 1 v ((out ++ [l]).map txt).length ((out ++ [l]).map txt) := by
  rw [text_of hx] at h
  rw [List.map_append]; exact h
set_option maxHeartbeats 2000000 in
theorem ref_parts (s : ByteArray) (w : World) : Calls Tryd.prog 17 #[.string s] w (RPartsPost w s) := by
  cases h1 : s.toList == [47] with
  | true =>
    have HP := hid (parts_root h1)
    go_enter Tryd.func17, Tryd.ntmps17
    go_wp2_with fail
    go_ret2
    exact ⟨_, by rw [HP.out]; rfl, by rw [HP.out]; exact IsTexts.nil _, Below.refl _ _⟩
  | false =>
  have g1 := bytes_ne h1
  by_cases h2 : 128 < s.size
  · have HP := hid (parts_long h1 h2)
    go_enter Tryd.func17, Tryd.ntmps17
    go_wp2_with fail
    go_ret2
    exact ⟨_, by rw [HP.out]; rfl, by rw [HP.out]; exact IsTexts.nil _, Below.refl _ _⟩
  by_cases h4 : s.size < 1
  · have HP := hid (parts_head h1 (by
      cases e : Lib.hasPrefix (bl s) [47] with
      | false => rfl
      | true => have := prefix_some e; omega))
    go_enter Tryd.func17, Tryd.ntmps17
    go_wp2_with fail
    go_ret2
    exact ⟨_, by rw [HP.out]; rfl, by rw [HP.out]; exact IsTexts.nil _, Below.refl _ _⟩
  have h0 : 0 < s.size := by omega
  have hh : Lib.hasPrefix (bl s) [47] = (s[0].toNat == 47) := by
    have e : bl s = s[0] :: (bl s).drop 1 := by
      have : 0 < (bl s).length := by rw [bl_length]; exact h0
      rw [show (bl s).drop 1 = (bl s).drop (0 + 1) from rfl, ← List.drop_zero (l := bl s), List.drop_eq_getElem_cons this]; rfl
    rw [e]
    simp only [Lib.hasPrefix, List.isPrefixOf, Bool.and_true]
    rw [Bool.eq_iff_iff, beq_iff_eq, beq_iff_eq]
    constructor
    · intro h; rw [← h]; rfl
    · intro h; apply UInt8.toNat_inj.1; rw [h]; rfl
  cases h3 : s[0].toNat == 47 with
  | false =>
    rw [h3] at hh
    have HP := hid (parts_head h1 hh)
    clear hh
    have g3 : ((s[0].toNat : Int) == 47) = false := by rw [beq_eq_false_iff_ne] at h3 ⊢; omega
    have g4 : ((s[0].toNat : Int) != 47) = true := by unfold bne; rw [g3]; rfl
    clear h3
    go_enter Tryd.func17, Tryd.ntmps17
    go_wp2_with fail
    go_ret2
    exact ⟨_, by rw [HP.out]; rfl, by rw [HP.out]; exact IsTexts.nil _, Below.refl _ _⟩
  | true =>
  rw [h3] at hh
  have HP := hid (parts_body h1 h2 hh)
  clear hh
  have g3 : ((s[0].toNat : Int) == 47) = true := by rw [beq_iff_eq] at h3 ⊢; omega
  have g4 : ((s[0].toNat : Int) != 47) = false := by unfold bne; rw [g3]; rfl
  have HS := hid (scan_start (p := bl s) (by rw [bl_length]; exact h0))
  clear h3
  go_enter Tryd.func17, Tryd.ntmps17
  go_wp2_with fail
  clear h1 g1 g3 g4
  go_loopw [4, 5, 6] (fun v f i wr => ∃ (k m : Nat) (out : List (List UInt8)), i = .int .i64 k ∧ f = .int .i64 m ∧ k ≤ s.size + 1 ∧ Hid (Scan (bl s) m k out) ∧ Hid (wr.ownsRow w.heap.size 9 1 v (out.map txt).length (out.map txt)) ∧ Hid (Below w.heap.size w wr)) (fun _ _ i _ => s.size + 1 - (intOf i).toNat)
  case atStart => exact ⟨1, 1, [], rfl, rfl, by omega, HS, World.ownsRow_nil _ _ _ _, Below.refl _ _⟩
  case round =>
    clear HS
    obtain ⟨k, m, out, rfl, rfl, hk, HS, HO, HB⟩ := hrel
    have hmk : m ≤ k := HS.out.2.2.2.1
    have hm1 : 1 ≤ m := HS.out.2.2.1
    have hol : out.length < k := HS.out.2.1
    by_cases hle : k ≤ s.size
    · have HX := hid (extract_text s m k)
      have HN := hid (fun w => ref_name (s.extract m k) w)
      rw [HX.out] at HN
      have hsx : (s.extract m k).size = k - m := by rw [ByteArray.size_extract]; omega
      by_cases hke : k = s.size
      · have e1 : ((k : Int) == (s.size : Int)) = true := by rw [beq_iff_eq]; omega
        have HS2 := hid (scan_last HS.out (hke.trans (bl_length s).symm))
        have HKE := hid hke
        clear hke
        go_wp2_with fail
        refine (HN.out _).mono ?_
        rintro e w2 ⟨rfl, rfl⟩
        cases hn : nameOk (((bl s).drop m).take (k - m)) with
        | false =>
          have HF := hid (HS2.out.2 hn)
          clear hn HS2
          go_wp2_with fail
          go_ret2
          have e := HP.out
          rw [← List.drop_one, HF.out] at e
          have e2 : parts (bl s) = none := by rw [e]; split <;> simp
          exact ⟨_, by rw [e2]; rfl, by rw [e2]; exact IsTexts.nil _, HB.out⟩
        | true =>
          have HS3 := hid (HS2.out.1 hn)
          clear hn HS2
          go_wp2_with (at_builtin; refine wpList_app_one rfl (.tmp 45) (.tmp 50) 56 rfl w.heap.size 9 Tryd.underlying56 infoS rfl _ (out.map txt) _ rfl HO.out rfl rfl (by rw [List.length_map]; omega) (by rw [List.length_map]; unfold maxLen; omega) HB.out.size ?_; intro v' w1 ho1 hb1; refine Stop.mk ?_)
          have HO1 := hid (app_text HX.out ho1)
          have HB1 := hid (HB.out.trans hb1)
          clear ho1 hb1 HO HB
          refine Stop.go ?_
          go_wp2_with fail
          go_roundw
          case rel => exact ⟨k + 1, k + 1, _, by go_num, by go_num, by omega, HS3, HO1, HB1⟩
          case measure => simp [intOf]; omega
      · have e1 : ((k : Int) == (s.size : Int)) = false := by rw [beq_eq_false_iff_ne]; omega
        have hks : k < s.size := by omega
        have hkb : k < (bl s).length := by rw [bl_length]; exact hks
        have HG : Hid ((bl s)[k] = s[k]) := rfl
        by_cases hc : s[k] = 47
        · have HS2 := hid (scan_piece HS.out hkb hc)
          have e2 : ((s[k].toNat : Int) == 47) = true := by rw [hc]; rfl
          clear hc
          go_wp2_with fail
          refine (HN.out _).mono ?_
          rintro e w2 ⟨rfl, rfl⟩
          cases hn : nameOk (((bl s).drop m).take (k - m)) with
          | false =>
            have HF := hid (HS2.out.2 hn)
            clear hn HS2
            go_wp2_with fail
            go_ret2
            have e := HP.out
            rw [← List.drop_one, HF.out] at e
            have e2 : parts (bl s) = none := by rw [e]; split <;> simp
            exact ⟨_, by rw [e2]; rfl, by rw [e2]; exact IsTexts.nil _, HB.out⟩
          | true =>
            have HS3 := hid (HS2.out.1 hn)
            clear hn HS2
            go_wp2_with (at_builtin; refine wpList_app_one rfl (.tmp 45) (.tmp 50) 56 rfl w.heap.size 9 Tryd.underlying56 infoS rfl _ (out.map txt) _ rfl HO.out rfl rfl (by rw [List.length_map]; omega) (by rw [List.length_map]; unfold maxLen; omega) HB.out.size ?_; intro v' w1 ho1 hb1; refine Stop.mk ?_)
            have HO1 := hid (app_text HX.out ho1)
            have HB1 := hid (HB.out.trans hb1)
            clear ho1 hb1 HO HB
            refine Stop.go ?_
            go_wp2_with fail
            go_roundw
            case rel => exact ⟨k + 1, k + 1, _, by go_num, by go_num, by omega, HS3, HO1, HB1⟩
            case measure => simp [intOf]; omega
        · have HS2 := hid (scan_skip HS.out hkb hc)
          have e2 : ((s[k].toNat : Int) == 47) = false := by
            rw [beq_eq_false_iff_ne]
            intro e
            apply hc
            apply UInt8.toNat_inj.1
            have : s[k].toNat = 47 := by omega
            rw [this]; rfl
          clear hc
          go_wp2_with fail
          go_roundw
          case rel => exact ⟨k + 1, m, out, by go_num, rfl, by omega, HS2, HO, HB⟩
          case measure => simp [intOf]; omega
    · have HE := hid (scan_end HS.out (by rw [bl_length]; omega))
      obtain ⟨a, c, rfl, hr, hc0, hcl, hcm⟩ := owns_texts HO.out
      have HT := hid (show IsTexts wr (.slice a out.length c) out from ⟨a, c, rfl, hr, hc0, hcl, hcm⟩)
      clear HO hr hc0 hcl hcm
      have e := HP.out
      rw [← List.drop_one, HE.out.2, if_pos rfl, ← HE.out.1] at e
      have HP2 := hid e
      clear e HP
      have hol2 : out.length ≤ s.size + 1 := by omega
      by_cases h8 : 8 < out.length
      · have HP3 : Hid (parts (bl s) = none) := by show _ = _; rw [HP2.out, if_pos h8]
        go_wp2_with fail
        go_ret2
        exact ⟨_, by rw [HP3.out]; rfl, by rw [HP3.out]; exact IsTexts.nil _, HB.out⟩
      · have HP3 : Hid (parts (bl s) = some out) := by show _ = _; rw [HP2.out, if_neg h8]
        go_wp2_with fail
        go_ret2
        exact ⟨_, by rw [HP3.out]; rfl, by rw [HP3.out]; exact HT.out, HB.out⟩
end Go.Proofs.YtjnbflhpboheiaaDoor
