/-
  Ten digits behind a path: the document's Digits and Suffix; path.Suffix.
-/
import Derived.Test.YtjbmphkoafkgfaaDoorPathR3
import Derived.Test.YtjbmphkoafkgfaaDoorPathD
import Derived.Test.YtjbmphkoafkgfaaDoorShelf2
import Derived.Lib.AppendIntMem
namespace Go.Proofs.YtjbmphkoafkgfaaDoor
open Go.RowKit
set_option maxRecDepth 20000
set_option linter.unusedVariables false

theorem ofNat_toNat' {n : Nat} (h : n < 256) : (UInt8.ofNat n).toNat = n := by simpa using Nat.mod_eq_of_lt h
theorem run_bytes02 {P : Program} {w : World} {src dst e : TypeId} {v : Value} {l : List UInt8} (hs : P.underlying src = some (.slice e)) (he : P.underlying e = some (.int .u8)) (hd : P.underlying dst = some .string)
    (h : IsBytes w v l) : (convert src dst v).run P w = .ok (.string ⟨l.toArray⟩) w := by
  obtain ⟨a, c, rfl, hr, hc0, _, _⟩ := h
  rw [run_convert_bytes_string w src dst e a _ c hs he hd]
  cases a with
  | none =>
    have := hr.none
    have hl : l = [] := by simpa using this
    subst hl
    simp [Conv.bytesToString]; rfl
  | some ad =>
    have hm : l.map byt = (l.map fun x => (x.toNat : Int)).map (Value.int .u8) := by simp [Function.comp_def]
    have hl := run_loadCells_list (P := P) w ad (l.map byt) hr.add
    rw [hm] at hl
    simp only [List.length_map] at hl
    rw [run_bytesToString w ad _ c (l.map fun x => (x.toNat : Int)) hl, foldl_push_bytes]
    simp [ByteArray.empty, ByteArray.emptyWithCapacity, Function.comp_def]
    rfl

set_option maxHeartbeats 1000000 in
theorem ref_digits (n : Nat) (w : World) (hn : n ≤ 9999999999) : Calls Tryd.prog 35 #[.int .i64 n] w fun e w' => e = .returned (txt (dig10 10 n)) ∧ Below w.heap.size w w' := by
  go_enter Tryd.func35, Tryd.ntmps35
  go_wp2_with fail
  go_loopw [0, 3, 4] (fun m s i wr => ∃ (k q : Nat), i = .int .i64 k ∧ k ≤ 10 ∧ m = .int .i64 q ∧ q ≤ 9999999999 ∧ Hid (q = n / 10 ^ k) ∧ s = txt (dig10 k n) ∧ Hid (Below w.heap.size w wr)) (fun _ _ i _ => 10 - (intOf i).toNat)
  case atStart => exact ⟨0, n, rfl, by omega, rfl, hn, by show n = n / 10 ^ 0; simp, rfl, Below.refl _ _⟩
  case round =>
    obtain ⟨k, q, rfl, hk, rfl, hq, hqe, rfl, HB⟩ := hrel
    by_cases hlt : k < 10
    · have hd := hid (dig10_cons k n)
      rw [← hqe.out] at hd
      have hl := dig10_length k n
      generalize dig10 k n = t at hd hl
      unfold txt
      have hs := size_mk t
      have hr := Nat.mod_lt q (show 0 < 10 by decide)
      have hz : ((48 + (q : Int) % 10) : Int) = ((UInt8.ofNat (48 + q % 10)).toNat : Int) := by rw [ofNat_toNat' (by omega)]; omega
      have hib : IsBytes (wr.alloc (.cells #[.int .u8 (48 + (q : Int) % 10)] 5)) (.slice (some ⟨wr.heap.size, 0, none⟩) 1 1) [UInt8.ofNat (48 + q % 10)] := by
        rw [hz]
        exact ⟨_, _, rfl, RowAt.new wr #[byt (UInt8.ofNat (48 + q % 10))] _ _, by simp, by simp, by unfold maxLen; omega⟩
      have hcv := run_bytes02 (P := Tryd.prog) Tryd.underlying60 Tryd.underlying5 Tryd.underlying9 hib
      have HNX := hid (show Value.string (ByteArray.mk [UInt8.ofNat (48 + q % 10)].toArray ++ ByteArray.mk t.toArray) = txt (dig10 (k + 1) n) from by
        refine text_of ?_
        rw [hd.out]
        show (ByteArray.mk [UInt8.ofNat (48 + q % 10)].toArray ++ ByteArray.mk t.toArray).data.toList = _
        rw [ByteArray.data_append, Array.toList_append]; simp)
      have hs2 : (ByteArray.mk [UInt8.ofNat (48 + q % 10)].toArray).size = 1 := rfl
      have hq2 : Hid (q / 10 = n / 10 ^ (k + 1)) := by show _ = _; rw [hqe.out, Nat.div_div_eq_div_mul, Nat.pow_succ]
      clear hib hz hd hqe
      generalize [UInt8.ofNat (48 + q % 10)].toArray = X at hcv HNX hs2
      go_wp2_with fail
      have HB2 := hid (HB.out.alloc HB.out.size (.cells #[.int .u8 (48 + (q : Int) % 10)] 5))
      go_roundw
      case rel => exact ⟨k + 1, q / 10, by go_num, by omega, by go_num, by omega, hq2, HNX.out, HB2⟩
      case measure => simp [intOf]; omega
    · obtain rfl : k = 10 := by omega
      go_wp2_with fail
      go_ret
      exact ⟨rfl, HB.out⟩

/-- The table of powers of ten lies where its initialiser lays it. -/
def Tab (w : World) : Prop := Lib.TabIs Tryd.prog w "internal/strconv.uint64pow10" .u64 Lib.pow10Tab
theorem Tab.below {w w' : World} (h : Tab w) (hb : Below w.heap.size w w') : Tab w' := Lib.tabBelow_of_tabIs h w' hb

theorem itoa02 (n : Nat) (w : World) (hn : n ≤ 9999999999) (ht : Tab w) : Calls Tryd.prog 33 #[.int .i64 n] w fun e w' => e = .returned (txt (Lib.decDigits n)) ∧ Below w.heap.size w w' := by
  refine (Tryd.strconv_Itoa (n : Int) (by omega) (by omega) w ht).mono ?_
  rintro e w' ⟨he, k, os, hw⟩
  refine ⟨?_, by rw [hw]; exact Lib.below_grow _ w (Nat.le_refl _) k os⟩
  rw [he]
  unfold Lib.itoa txt
  rw [if_neg (by omega)]
  simp
theorem repeat_one (x : UInt8) : ∀ c, Lib.repeatL [x] c = List.replicate c x
  | 0 => rfl
  | c + 1 => by rw [Lib.repeatL, repeat_one x c]; rfl
theorem repeat02 (c : Nat) (w : World) (hc : c ≤ 10) : Calls Tryd.prog 34 #[.string ⟨#[48]⟩, .int .i64 c] w fun e w' => e = .returned (txt (List.replicate c 48)) ∧ Below w.heap.size w w' := by
  refine (Tryd.strings_Repeat ⟨#[48]⟩ c w (by omega) (by show 1 * c ≤ _; omega)).mono ?_
  rintro e w' ⟨he, hb⟩
  refine ⟨?_, hb⟩
  rw [he]
  unfold txt
  have : Lib.repeatL (ByteArray.mk #[48]).data.toList c = List.replicate c 48 := repeat_one 48 c
  rw [this]

theorem suffix_none {p : List UInt8} {n : Int} (h : parts p = none) : suffixP p n = none := by unfold suffixP; rw [h]
theorem suffix_bad {p : List UInt8} {n : Int} (h : parts p = some [] ∨ n < 0 ∨ 9999999999 < n) : suffixP p n = none := by
  unfold suffixP
  rcases h with h | h
  · rw [h]; simp
  · cases parts p with
    | none => rfl
    | some ls => simp only; rw [if_pos (.inr h)]
theorem suffix_ok {p : List UInt8} {ls : List (List UInt8)} {n : Nat} (h : parts p = some ls) (hne : ls ≠ []) (hn : n ≤ 9999999999) : suffixP p n = if (parts (p ++ dig10 10 n)).isSome then some (p ++ dig10 10 n) else none := by
  unfold suffixP
  rw [h]; simp only
  rw [if_neg (by rintro (g | g | g); exact hne g; omega; omega)]; rfl
theorem suffix_text (p : ByteArray) (l : List UInt8) : bl (p ++ ⟨l.toArray⟩) = bl p ++ l := by
  show (p ++ ByteArray.mk l.toArray).data.toList = _
  rw [ByteArray.data_append, Array.toList_append]

set_option maxHeartbeats 1000000 in
theorem ref_suffix (p : ByteArray) (n : Int) (w : World) : Calls Tryd.prog 27 #[.string p, .int .i64 n] w (RTextPost w (suffixP (bl p) n)) := by
  cases hp : parts (bl p) with
  | none =>
    have HS := hid (suffix_none (n := n) hp)
    have HP := hid hp
    clear hp
    go_enter Tryd.func27, Tryd.ntmps27
    go_wp2_with fail
    refine (ref_parts p _).mono ?_
    rintro e w' ⟨v, rfl, hv, hb⟩
    have HB := hid hb
    rw [HP.out]
    clear hb hv
    go_wp2_with fail
    go_ret2
    exact ⟨by rw [HS.out]; rfl, HB.out⟩
  | some ls =>
  have h8 := (parts_some hp).2.2.1
  by_cases hne : ls = []
  · subst hne
    have HS := hid (suffix_bad (n := n) (.inl hp))
    have HP := hid hp
    clear hp
    go_enter Tryd.func27, Tryd.ntmps27
    go_wp2_with fail
    refine (ref_parts p _).mono ?_
    rintro e w' ⟨v, rfl, hv, hb⟩
    rw [HP.out] at hv
    obtain ⟨a, c, rfl, -⟩ := hv
    have HB := hid hb
    rw [HP.out]
    clear hb
    go_wp2_with fail
    go_ret2
    exact ⟨by rw [HS.out]; rfl, HB.out⟩
  have hl1 : 1 ≤ ls.length := by
    cases ls with
    | nil => exact absurd rfl hne
    | cons x y => simp
  have e0 : ((ls.length : Int) == 0) = false := by rw [beq_eq_false_iff_ne]; omega
  by_cases hn : n < 0 ∨ 9999999999 < n
  · have HS := hid (suffix_bad (p := bl p) (.inr hn))
    have HP := hid hp
    clear hp
    rcases hn with hn | hn
    all_goals
      go_enter Tryd.func27, Tryd.ntmps27
      go_wp2_with fail
      refine (ref_parts p _).mono ?_
      rintro e w' ⟨v, rfl, hv, hb⟩
      rw [HP.out] at hv
      obtain ⟨a, c, rfl, -⟩ := hv
      have HB := hid hb
      rw [HP.out]
      clear hb
      simp only [Option.getD_some]
      go_wp2_with fail
      go_ret2
      exact ⟨by rw [HS.out]; rfl, HB.out⟩
  have hn1 : ¬ n < 0 := fun h => hn (.inl h)
  have hn2 : ¬ 9999999999 < n := fun h => hn (.inr h)
  obtain ⟨m, rfl⟩ := Int.eq_ofNat_of_zero_le (show 0 ≤ n by omega)
  have hm : m ≤ 9999999999 := by omega
  have HS := hid (suffix_ok hp hne hm)
  have hsz := parts_size hp
  have HP := hid hp
  have hdl := dig10_length 10 m
  have HD := hid (fun w => ref_digits m w hm)
  have HT := hid (suffix_text p (dig10 10 m))
  clear hp hne hn hn1 hn2
  generalize dig10 10 m = t at HS hdl HD HT
  go_enter Tryd.func27, Tryd.ntmps27
  go_wp2_with fail
  refine (ref_parts p _).mono ?_
  rintro e w' ⟨v, rfl, hv, hb⟩
  rw [HP.out] at hv
  obtain ⟨a, c, rfl, -⟩ := hv
  have HB := hid hb
  rw [HP.out]
  clear hb
  simp only [Option.getD_some]
  go_wp2_with fail
  refine (HD.out _).mono ?_
  rintro e w2 ⟨rfl, hb⟩
  have HB2 := hid (below_step HB.out HB.out.size hb)
  clear hb HB HD
  unfold txt
  have hst := size_mk t
  go_wp2_with fail
  refine (ref_parts (p ++ ByteArray.mk t.toArray) _).mono ?_
  rintro e w3 ⟨v3, rfl, hv, hb⟩
  have HB3 := hid (below_step HB2.out HB2.out.size hb)
  rw [HT.out]
  clear hb hv HB2
  have HX := hid (text_of HT.out)
  cases hq : parts (bl p ++ t) with
  | none =>
    have e := HS.out
    rw [hq] at e
    have HS2 := hid e
    clear hq e
    go_wp2_with fail
    go_ret2
    exact ⟨by rw [HS2.out]; rfl, HB3.out⟩
  | some x =>
    have e := HS.out
    rw [hq] at e
    have HS2 := hid e
    clear hq e
    go_wp2_with fail
    go_ret2
    exact ⟨rtext_ret HX.out (by rw [HS2.out]; rfl) (by rw [HS2.out]; rfl), HB3.out⟩

set_option maxHeartbeats 1000000 in
theorem path_suffix (p : ByteArray) (n : Int) (w : World) (ht : Tab w) : Calls Tryd.prog 26 #[.string p, .int .i64 n] w (TextPost w (suffixP (bl p) n)) := by
  cases h1 : p.toList == [47] with
  | true =>
    have HS := hid (suffix_bad (n := n) (.inl (parts_root h1)))
    go_enter Tryd.func26, Tryd.ntmps26
    go_wp2_with fail
    go_ret2
    exact ⟨by rw [HS.out]; rfl, Below.refl _ _⟩
  | false =>
  have g1 := bytes_ne h1
  by_cases hn : n < 0 ∨ 9999999999 < n
  · have HS := hid (suffix_bad (p := bl p) (.inr hn))
    rcases hn with hn | hn
    all_goals
      go_enter Tryd.func26, Tryd.ntmps26
      go_wp2_with fail
      go_ret2
      exact ⟨by rw [HS.out]; rfl, Below.refl _ _⟩
  have hn1 : ¬ n < 0 := fun h => hn (.inl h)
  have hn2 : ¬ 9999999999 < n := fun h => hn (.inr h)
  cases hp : parts (bl p) with
  | none =>
    have HS := hid (suffix_none (n := n) hp)
    have HP := hid hp
    clear hp hn
    go_enter Tryd.func26, Tryd.ntmps26
    go_wp2_with fail
    refine (path_check p _).mono ?_
    rintro e w' ⟨rfl, hb⟩
    have HB := hid hb
    rw [HP.out]
    clear hb
    go_wp2_with fail
    go_ret2
    exact ⟨by rw [HS.out]; rfl, HB.out⟩
  | some ls =>
  have hne : ls ≠ [] := by
    rintro rfl
    rw [is_root hp] at h1; cases h1
  obtain ⟨m, rfl⟩ := Int.eq_ofNat_of_zero_le (show 0 ≤ n by omega)
  have hm : m ≤ 9999999999 := by omega
  have HS := hid (suffix_ok hp hne hm)
  have hsz := parts_size hp
  have HP := hid hp
  have HTB := hid ht
  have hpad := dig10_pad 9 m (by omega)
  have HI := hid (fun w (h : Tab w) => itoa02 m w hm h)
  obtain ⟨hdl, hpd⟩ := hpad
  have HPD := hid hpd
  clear hp hne hn hn1 hn2 ht hpd
  go_enter Tryd.func26, Tryd.ntmps26
  go_wp2_with fail
  refine (path_check p _).mono ?_
  rintro e w1 ⟨rfl, hb⟩
  have HB1 := hid hb
  have HTB1 := hid (HTB.out.below hb)
  rw [HP.out, show errP (some ls) = (0 : Int) from rfl]
  clear hb HTB
  go_wp2_with fail
  refine (HI.out _ HTB1.out).mono ?_
  rintro e w2 ⟨rfl, hb⟩
  have HB2 := hid (below_step HB1.out HB1.out.size hb)
  clear hb HB1 HI HTB1
  generalize Lib.decDigits m = d at hdl HPD ⊢
  generalize dig10 (9 + 1) m = t at HPD HS
  obtain ⟨c, hc⟩ : ∃ c, c = 10 - d.length := ⟨_, rfl⟩
  have hcd : c + d.length = 10 := by omega
  have HC := hid hc
  rw [← hc] at HPD
  clear hc
  have hc10 : c ≤ 10 := by omega
  have hdi : (10 : Int) - (d.length : Int) = (c : Int) := by omega
  unfold txt
  have hsd := size_mk d
  have hsr := size_mk (List.replicate c (48 : UInt8))
  rw [List.length_replicate] at hsr
  have HT := hid (show bl (p ++ (ByteArray.mk (List.replicate c 48).toArray ++ ByteArray.mk d.toArray)) = bl p ++ t from by
    rw [← HPD.out]
    show (p ++ (ByteArray.mk (List.replicate c 48).toArray ++ ByteArray.mk d.toArray)).data.toList = _
    rw [ByteArray.data_append, ByteArray.data_append, Array.toList_append, Array.toList_append])
  have hdw : IntKind.i64.wrap (10 - (d.length : Int)) = (c : Int) := by rw [hdi]; exact IntWalk.i64_in _ (by omega)
  have HR := hid (fun w => repeat02 c w hc10)
  unfold txt at HR
  generalize List.replicate c (48 : UInt8) = r at HR HT hsr
  go_wp2_with fail
  refine (HR.out _).mono ?_
  rintro e w3 ⟨rfl, hb⟩
  have HB3 := hid (below_step HB2.out HB2.out.size hb)
  clear hb HB2 HR
  go_wp2_with fail
  refine (path_check (p ++ (ByteArray.mk r.toArray ++ ByteArray.mk d.toArray)) _).mono ?_
  rintro e w4 ⟨rfl, hb⟩
  have HB4 := hid (below_step HB3.out HB3.out.size hb)
  rw [HT.out]
  clear hb HB3
  have HX := hid (text_of HT.out)
  cases hq : parts (bl p ++ t) with
  | none =>
    have e := HS.out
    rw [hq] at e
    have HS2 := hid e
    clear hq e
    go_wp2_with fail
    go_ret2
    exact ⟨by rw [HS2.out]; rfl, HB4.out⟩
  | some x =>
    have e := HS.out
    rw [hq] at e
    have HS2 := hid e
    clear hq e
    go_wp2_with fail
    go_ret2
    exact ⟨text_ret HX.out (by rw [HS2.out]; rfl) (by rw [HS2.out]; rfl), HB4.out⟩
end Go.Proofs.YtjbmphkoafkgfaaDoor
