/-
  find, Read, Safe.
-/
import Derived.Test.YtibhkkfbhbnmeaaDsk3
import Derived.Test.YtibhkkfbhbnmeaaDsk1
import Derived.Test.YtibhkkfbhbnmeaaClone
namespace Go.Proofs.Ytibhkkfbhbnmeaa
open Go.RowKit Go.ChangeMaps
set_option maxRecDepth 20000
set_option linter.unusedVariables false

theorem keyT : KeyOk Try.prog 9 tkey := KeyOk.text Try.underlying9
/-- A text's bytes. -/
abbrev bl (s : ByteArray) : List UInt8 := s.data.toList
theorem str_tkey (s : ByteArray) : Value.string s = tkey (bl s) := by
  show Value.string s = Value.string ⟨s.data.toList.toArray⟩
  rw [Array.toArray_toList]
/-- The file of a name. -/
def fileOf (F : List Fl) (nm : List UInt8) : Option Fl := F.find? fun x => decide (x.nm = nm)
def fptr (x : Fl) : Value := .pointer (some ⟨x.f, 0, none⟩)
theorem look_file (F : List Fl) (nm : List UInt8) : look (F.map flEnt) nm = (fileOf F nm).map fptr := by
  have e : ∀ (a b : List UInt8), (@BEq.beq _ instBEqOfDecidableEq a b) = decide (a = b) := fun _ _ => rfl
  unfold look fileOf
  simp only [e]
  induction F with
  | nil => rfl
  | cons x F ih =>
    rw [List.map_cons, List.find?_cons, List.find?_cons]
    have e2 : (flEnt x).1 = x.nm := rfl
    rw [e2]
    cases decide (x.nm = nm) with
    | true => rfl
    | false => exact ih
theorem fileOf_mem {F : List Fl} {nm : List UInt8} {x : Fl} (h : fileOf F nm = some x) : x ∈ F ∧ x.nm = nm :=
  ⟨List.mem_of_find?_eq_some h, by simpa using List.find?_some h⟩
theorem run_file {w : World} {m : Nat} {F : List Fl} (h : TabAt w m F) (s : ByteArray) : (Instr.lookup 55 (.map (some m)) (.string s) false).run Try.prog w = .ok (((fileOf F (bl s)).map fptr).getD (.pointer none)) w := by
  rw [str_tkey]
  have := run_look (w := w) Try.underlying55 keyT h.map (bl s) (.pointer none) (by kernel_rfl) false
  rw [look_file] at this
  exact this

/-- What find tells: the error's number. -/
def findE (F : List Fl) (ss : List ByteArray) : Int := if ss.all (fun s => fname (bl s)) then (if ss.all (fun s => (fileOf F (bl s)).isSome) then 0 else 31) else 30
def FindPost (w : World) (F : List Fl) (ss : List ByteArray) (e : Ending) (w' : World) : Prop :=
  Below w.heap.size w w' ∧ ((findE F ss ≠ 0 ∧ e = .returned (.tuple #[.slice none 0 0, .int .i64 (findE F ss)])) ∨
    (findE F ss = 0 ∧ ∃ (fs : List Fl) (v : Value), e = .returned (.tuple #[v, .int .i64 0]) ∧ w'.ownsRow w.heap.size 67 1 v fs.length (fs.map fptr) ∧ fs.map Fl.nm = ss.map bl ∧ ∀ x ∈ fs, x ∈ F))
theorem str_row {w : World} {a : Option Addr} {ss : List ByteArray} (h : RowAt w a (ss.map Value.string)) {k : Nat} (hk : k < ss.length) : ∃ b o, a = some ⟨b, o, none⟩ ∧ w.cell? ⟨b, o + k, none⟩ = some (.string ss[k]) := by
  obtain ⟨b, o, e, hc⟩ := h.at k (by simpa using hk)
  exact ⟨b, o, e, by simpa using hc⟩
theorem own_at' {w : World} {base : Nat} {e : TypeId} {size n : Nat} {v : Value} {xs : List Value} (h : w.ownsRow base e size v n xs) (hn : 0 < n) : ∃ k c, v = .slice (some ⟨k, 0, none⟩) n c ∧ base ≤ k ∧ RowAt w (some ⟨k, 0, none⟩) xs := by
  obtain ⟨a, cap, rfl, hr, h1, h2⟩ := owns_row h
  obtain ⟨k, rfl, hb, -⟩ := own_some h hn
  exact ⟨k, cap, rfl, hb, hr⟩
theorem infoFp : (Try.prog.info? 67).map (fun i => (i.zero, i.size, i.bytes)) = some (some (.pointer none), 1, 8) := by kernel_rfl

set_option maxHeartbeats 2000000 in
theorem tab_find (m : Nat) (F : List Fl) (a : Option Addr) (ss : List ByteArray) (c : Nat) (w : World) (h : TabAt w m F) (hr : RowAt w a (ss.map Value.string)) (hm : ss.length ≤ 1048576) :
    Calls Try.prog 34 #[.map (some m), .slice a ss.length c] w (FindPost w F ss) := by
  have HT := hid h
  have HR := hid hr
  have HBZ := hid (Below.refl w.heap.size w)
  clear h hr
  go_enter Try.func34, Try.ntmps34
  go_wp2_with fail
  go_loopw [14] (fun i wr => ∃ k : Nat, i = .int .i64 k ∧ k ≤ ss.length ∧ Hid ((ss.take k).all (fun s => fname (bl s)) = true) ∧ Hid (Below w.heap.size w wr)) (fun i _ => ss.length - (intOf i).toNat)
  case atStart => exact ⟨0, rfl, Nat.zero_le _, rfl, HBZ⟩
  case round =>
    clear HBZ
    obtain ⟨k, rfl, hk, HA, HB⟩ := hrel
    by_cases hlt : k < ss.length
    · obtain ⟨x, o, rfl, hc⟩ := str_row (HR.out.below HB.out) hlt
      have HAS : Hid ((ss.take (k + 1)).all (fun s => fname (bl s)) = (fname (bl ss[k]))) := by
        show _ = _
        rw [List.take_succ_eq_append_getElem hlt, List.all_append, HA.out, Bool.true_and]; simp
      have HM := hid (List.getElem_mem hlt)
      generalize ss[k] = s at *
      go_wp2_with fail
      refine (right_name s wr).mono ?_
      rintro e w1 ⟨rfl, hb⟩
      have HB1 := hid (HB.out.trans (hb.mono HB.out.size))
      cases hf : fname s.data.toList with
      | true =>
        have HA1 : Hid ((ss.take (k + 1)).all (fun s => fname (bl s)) = true) := by show _ = _; rw [HAS.out]; exact hf
        clear hf hb HA HB HAS HM hc
        go_wp2_with fail
        go_roundw
        case rel => exact ⟨k + 1, by go_num, by omega, HA1, HB1⟩
        case measure => simp [intOf]; omega
      | false =>
        have HE : Hid (findE F ss = 30) := by
          show _ = _
          unfold findE
          rw [if_neg (by
            intro h
            have := List.all_eq_true.1 h s HM.out
            rw [show fname (bl s) = false from hf] at this; cases this)]
        clear hf hb HA HB HAS HM hc
        go_wp2_with fail
        go_ret2
        exact ⟨HB1.out, .inl ⟨by rw [HE.out]; decide, by rw [HE.out]; rfl⟩⟩
    · have hkl : k = ss.length := by omega
      subst hkl
      rw [List.take_length] at HA
      clear hlt hk
      have HTr := hid (HT.out.below HB.out)
      generalize wr = wp at *
      go_wp2_with fail
      go_loopw [8, 24] (fun v i w2 => ∃ (k : Nat) (fs : List Fl), i = .int .i64 k ∧ k ≤ ss.length ∧ Hid (fs.map Fl.nm = (ss.take k).map bl) ∧ Hid (∀ x ∈ fs, x ∈ F) ∧ Hid (Below w.heap.size w w2) ∧ Hid (w2.ownsRow w.heap.size 67 1 v fs.length (fs.map fptr))) (fun _ i _ => ss.length - (intOf i).toNat)
      case atStart => exact ⟨0, [], rfl, Nat.zero_le _, rfl, (by simp [Hid]), HB, World.ownsRow_nil _ _ _ _⟩
      case round =>
        clear HB HTr
        obtain ⟨k, fs, rfl, hk, HN, HF, HB, HO⟩ := hrel
        by_cases hlt : k < ss.length
        · obtain ⟨x, o, rfl, hc⟩ := str_row (HR.out.below HB.out) hlt
          have HTK := hid (congrArg (List.map bl) (List.take_succ_eq_append_getElem hlt))
          have HM := hid (List.getElem_mem hlt)
          have HFL : Hid (fs.length = k) := by
            have h := congrArg List.length HN.out
            simp only [List.length_map, List.length_take] at h
            show _ = _
            omega
          generalize ss[k] = s at *
          have hl := run_file (HT.out.below HB.out) s
          cases hff : fileOf F (bl s) with
          | none =>
            rw [hff] at hl
            have HE : Hid (findE F ss = 31) := by
              show _ = _
              unfold findE
              rw [if_pos HA.out, if_neg (by
                intro h
                have := List.all_eq_true.1 h s HM.out
                rw [hff] at this; cases this)]
            clear hff HO HM HN HF HTK HFL
            go_wp2_with fail
            go_ret2
            exact ⟨HB.out, .inl ⟨by rw [HE.out]; decide, by rw [HE.out]; rfl⟩⟩
          | some y =>
            rw [hff] at hl
            simp only [Option.map_some, Option.getD_some, fptr] at hl
            obtain ⟨hy1, hy2⟩ := fileOf_mem hff
            have HY := hid hy1
            have HN1 : Hid ((fs ++ [y]).map Fl.nm = (ss.take (k + 1)).map bl) := by
              show _ = _
              rw [HTK.out, List.map_append, List.map_append, HN.out]
              show _ ++ [y.nm] = _ ++ [bl s]
              rw [hy2]
            have HF1 : Hid (∀ x ∈ fs ++ [y], x ∈ F) := fun x hx => by
              rcases List.mem_append.1 hx with h | h
              · exact HF.out x h
              · rw [List.mem_singleton.1 h]; exact HY.out
            have HO2 : Hid (wr.ownsRow w.heap.size 67 1 u8 (fs.map fptr).length (fs.map fptr)) := by
              have h := HO.out
              show World.ownsRow _ _ _ _ _ _ _
              rw [List.length_map]; exact h
            have hfl : fs.length ≤ 1048576 := by have := HFL.out; omega
            clear hff hy1 hy2 HN HF HTK HM HO HFL HY
            go_wp2_with (at_builtin; refine wpList_app_one rfl (.tmp 33) (.tmp 35) 73 rfl w.heap.size 67 Try.underlying73 infoFp rfl _ (fs.map fptr) (.pointer (some ⟨y.f, 0, none⟩)) rfl HO2.out rfl rfl (by rw [List.length_map]; omega) (by rw [List.length_map]; unfold maxLen; omega) HB.out.size ?_; intro v' w3 ho3 hb3; refine Stop.mk ?_)
            have HO3 : Hid (w3.ownsRow w.heap.size 67 1 v' (fs ++ [y]).length ((fs ++ [y]).map fptr)) := by
              have h := ho3
              show World.ownsRow _ _ _ _ _ _ _
              rw [List.length_append, List.length_map] at h
              rw [List.length_append, List.map_append]; exact h
            have HB3 := hid (HB.out.trans hb3)
            clear ho3 hb3 HO2 HB hl hc
            refine Stop.go ?_
            go_wp2
            go_roundw
            case rel => exact ⟨k + 1, fs ++ [y], by go_num, by omega, HN1, HF1, HB3, HO3⟩
            case measure => simp [intOf]; omega
        · have hkl : k = ss.length := by omega
          subst hkl
          rw [List.take_length] at HN
          have HE : Hid (findE F ss = 0) := by
            show _ = _
            unfold findE
            rw [if_pos HA.out, if_pos]
            rw [List.all_eq_true]
            intro s hs
            have : bl s ∈ ss.map bl := List.mem_map.2 ⟨s, hs, rfl⟩
            rw [← HN.out] at this
            obtain ⟨x, hx, he⟩ := List.mem_map.1 this
            unfold fileOf
            rw [List.find?_isSome]
            exact ⟨x, HF.out x hx, by simpa using he⟩
          clear hlt hk
          go_wp2_with fail
          go_ret2
          exact ⟨HB.out, .inr ⟨HE.out, fs, _, rfl, HO.out, HN.out, HF.out⟩⟩
end Go.Proofs.Ytibhkkfbhbnmeaa
