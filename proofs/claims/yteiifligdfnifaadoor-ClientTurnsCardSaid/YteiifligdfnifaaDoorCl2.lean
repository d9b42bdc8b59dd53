/-
  client: between, the closure of New, ContainsFunc, Clone of ints.
-/
import Derived.Test.YteiifligdfnifaaDoorCl1
import Derived.Test.YteiifligdfnifaaDoorCopyI
import Derived.Test.YteiifligdfnifaaDoorPathNR
import Derived.BigRegion
import Derived.WalkSpells
namespace Go.Proofs.YteiifligdfnifaaDoor
open Go.RowKit
set_option maxRecDepth 20000
set_option linter.unusedVariables false

theorem cl_between (n lo hi : Int) (w : World) : Calls Tryd.prog 25 #[.int .i64 n, .int .i64 lo, .int .i64 hi] w fun e w' => e = .returned (.bool (decide (lo ≤ n ∧ n ≤ hi))) ∧ w = w' := by
  go_enter Tryd.func25, Tryd.ntmps25
  by_cases h1 : lo ≤ n
  · by_cases h2 : n ≤ hi
    · rw [decide_eq_true ⟨h1, h2⟩]
      go_wp2_with fail
      go_ret
      exact ⟨rfl, rfl⟩
    · rw [decide_eq_false (fun q => h2 q.2)]
      go_wp2_with fail
      go_ret
      exact ⟨rfl, rfl⟩
  · rw [decide_eq_false (fun q => h1 q.1)]
    go_wp2_with fail
    go_ret
    exact ⟨rfl, rfl⟩
def badS (x : Int) : Bool := !decide (0 ≤ x ∧ x ≤ 31)
theorem cl_bad (x : Int) (w : World) : Calls Tryd.prog 24 #[.int .i64 x] w fun e w' => e = .returned (.bool (badS x)) ∧ w = w' := by
  obtain ⟨bb, hbb⟩ : ∃ bb, decide (0 ≤ x ∧ x ≤ 31) = bb := ⟨_, rfl⟩
  have hb : badS x = !bb := by unfold badS; rw [hbb]
  have HBB := hid hbb
  rw [hb]
  clear hb hbb
  go_enter Tryd.func24, Tryd.ntmps24
  go_wp2_with fail
  refine (cl_between x 0 31 w).mono ?_
  rintro e w' ⟨rfl, rfl⟩
  rw [HBB.out]
  go_wp2_with fail
  go_ret
  exact ⟨rfl, rfl⟩
theorem cl_time (n : Int) (w : World) : Calls Tryd.prog 32 #[.int .i64 n] w fun e w' => e = .returned (.bool (decide (0 ≤ n ∧ n ≤ 1099511627776))) ∧ w = w' := by
  obtain ⟨bb, hbb⟩ : ∃ bb, decide (0 ≤ n ∧ n ≤ 1099511627776) = bb := ⟨_, rfl⟩
  have HBB := hid hbb
  rw [hbb]
  clear hbb
  go_enter Tryd.func32, Tryd.ntmps32
  go_wp2_with fail
  refine (cl_between n 0 1099511627776 w).mono ?_
  rintro e w' ⟨rfl, rfl⟩
  rw [HBB.out]
  go_wp2_with fail
  go_ret
  exact ⟨rfl, rfl⟩
def idxP (p : Int → Bool) (l : List Int) : Int := match l.findIdx? p with | some j => j | none => -1
theorem idxP_at {p : Int → Bool} {l : List Int} {k : Nat} (hk : k < l.length) (e : p l[k] = true) (h : ∀ (j : Nat) (hj : j < l.length), j < k → p l[j] = false) : idxP p l = k := by
  unfold idxP
  have : l.findIdx? p = some k := List.findIdx?_eq_some_iff_getElem.2 ⟨hk, e, fun j hj => by simpa using h j (by omega) hj⟩
  rw [this]
theorem idxP_none {p : Int → Bool} {l : List Int} (h : ∀ (j : Nat) (hj : j < l.length), p l[j] = false) : idxP p l = -1 := by
  unfold idxP
  have : l.findIdx? p = none := by
    rw [List.findIdx?_eq_none_iff]
    intro x hx
    obtain ⟨j, hj, rfl⟩ := List.getElem_of_mem hx
    exact h j hj
  rw [this]
theorem idxP_cases (p : Int → Bool) (l : List Int) : (idxP p l = -1 ∧ ∀ x ∈ l, p x = false) ∨ ∃ (k : Nat) (hk : k < l.length), idxP p l = k ∧ p l[k] = true ∧ ∀ (j : Nat) (hj : j < l.length), j < k → p l[j] = false := by
  unfold idxP
  cases h : l.findIdx? p with
  | none => exact .inl ⟨rfl, fun x hx => by simpa using List.findIdx?_eq_none_iff.1 h x hx⟩
  | some j =>
    obtain ⟨hj, h1, h2⟩ := List.findIdx?_eq_some_iff_getElem.1 h
    exact .inr ⟨j, hj, rfl, h1, fun i hi hij => by simpa using h2 i hij⟩

set_option maxHeartbeats 1000000 in
theorem index_funcN (p : Int → Bool) (a : Option Addr) (c : Nat) (l : List Int) (w : World) (hr : RowAt w a (l.map (Value.int .i64))) (hm : l.length ≤ 4611686018427387904)
    (hp : ∀ x, Calls Tryd.prog 24 #[.int .i64 x] w fun e w' => e = .returned (.bool (p x)) ∧ w = w') :
    Calls Tryd.prog 53 #[.slice a l.length c, .func (.func 24) #[] #[]] w fun e w' => e = .returned (.int .i64 (idxP p l)) ∧ w = w' := by
  have HR := hid hr
  have HP := hid hp
  clear hr hp
  go_enter Tryd.func53, Tryd.ntmps53
  go_wp2_with fail
  go_loop [8] (fun i => ∃ k : Nat, i = .int .i64 k ∧ k ≤ l.length ∧ Hid (∀ (j : Nat) (hj : j < l.length), j < k → p l[j] = false)) (fun i => l.length - (intOf i).toNat)
  case atStart => exact ⟨0, rfl, Nat.zero_le _, fun j _ h => absurd h (Nat.not_lt_zero _)⟩
  case round =>
    obtain ⟨k, rfl, hk, HT⟩ := hrel
    by_cases hlt : k < l.length
    · obtain ⟨b, o, rfl, hc⟩ := HR.out.at k (by simpa using hlt)
      simp only [List.getElem_map] at hc
      have H1 := hid (fun e : p l[k] = true => idxP_at hlt e HT.out)
      have H2 : Hid (p l[k] = false → ∀ (j : Nat) (hj : j < l.length), j < k + 1 → p l[j] = false) := fun h j hj hjk => by
        rcases Nat.lt_or_ge j k with g | g
        · exact HT.out j hj g
        · obtain rfl : j = k := by omega
          exact h
      clear HR HT
      generalize l[k] = x at *
      have hcall := HP.out x
      cases hx : p x with
      | true =>
        rw [hx] at hcall
        have HX := hid (H1.out hx)
        clear hx H1 H2 HP
        go_wp2_with fail
        refine hcall.mono ?_
        rintro e w' ⟨rfl, rfl⟩
        go_wp2_with fail
        go_ret
        exact ⟨by rw [HX.out]; rfl, rfl⟩
      | false =>
        rw [hx] at hcall
        have HX := hid (H2.out hx)
        clear hx H1 H2 HP
        go_wp2_with fail
        refine hcall.mono ?_
        rintro e w' ⟨rfl, rfl⟩
        go_wp2_with fail
        go_round
        case rel => exact ⟨k + 1, by go_num, by omega, HX⟩
        case measure => simp [intOf]; omega
    · obtain rfl : k = l.length := by omega
      go_wp2_with fail
      go_ret
      exact ⟨by rw [idxP_none (fun j hj => HT.out j hj hj)]; rfl, rfl⟩



theorem cl_contains (a : Option Addr) (c : Nat) (l : List Int) (w : World) (hr : RowAt w a (l.map (Value.int .i64))) (hm : l.length ≤ 4611686018427387904) :
    Calls Tryd.prog 28 #[.slice a l.length c, .func (.func 24) #[] #[]] w fun e w' => e = .returned (.bool (l.any badS)) ∧ w = w' := by
  have hidx := index_funcN badS a c l w hr hm (fun x => cl_bad x w)
  have HE : Hid (decide (0 ≤ idxP badS l) = l.any badS) := by
    show _ = _
    rcases idxP_cases badS l with ⟨h1, h2⟩ | ⟨k, hk, h1, h2, -⟩
    · rw [h1, List.any_eq_false.2 (fun x hx => by rw [h2 x hx]; decide)]; decide
    · rw [h1, List.any_eq_true.2 ⟨l[k], List.getElem_mem hk, h2⟩]; simp
  clear hr
  go_enter Tryd.func28, Tryd.ntmps28
  go_wp2_with fail
  refine hidx.mono ?_
  rintro e w' ⟨rfl, rfl⟩
  clear hidx
  go_wp2_with fail
  go_ret
  exact ⟨by rw [← HE.out]; rfl, rfl⟩

set_option maxHeartbeats 1000000 in
theorem cl_clone (v : Value) (l : List Int) (a : Option Addr) (c : Nat) (w : World) (hv : v = .slice a l.length c) (hr : RowAt w a (l.map (Value.int .i64))) (h0 : a = none → c = 0) (hm : l.length ≤ 1073741824) :
    Calls Tryd.prog 29 #[v] w fun e w' => ∃ v', e = .returned v' ∧ w'.ownsRow w.heap.size 3 1 v' l.length (l.map (Value.int .i64)) ∧ Below w.heap.size w w' := by
  subst hv
  have heq := Lib.run_eql_slice_nil (P := Tryd.prog) w 22 3 a l.length c 0 0 Tryd.underlying22
  have HR := hid hr
  clear hr
  go_enter Tryd.func29, Tryd.ntmps29
  cases a with
  | none =>
    have hn := HR.out.none
    have : l = [] := by simpa using hn
    subst this
    have hc := h0 rfl
    subst hc
    clear h0 hn HR
    simp only [List.length_nil, Option.isNone_none] at heq
    go_wp2_with fail
    go_ret
    exact ⟨_, rfl, World.ownsRow_nil _ _ _ _, Below.refl _ _⟩
  | some ad =>
    have hB : Hid (Below w.heap.size w (w.alloc (.cells #[] 3))) := (Below.refl _ _).alloc (Nat.le_refl _) _
    go_wp2_with (at_builtin; refine wpList_app rfl (.tmp 5) (.tmp 6) 22 rfl w.heap.size 3 Tryd.underlying22 infoInt rfl (by decide) _ 0 [] rfl (World.ownsRow_made w #[] 0 (Nat.le_refl _) (Nat.zero_le _) rfl) (some ad) l.length c (l.map (Value.int .i64)) rfl (by simp) (HR.out.below hB.out) (oneCell_ints _ _) (by unfold maxLen; omega) (by omega) (by simp) (fun e => by cases e) ?_; intro v' w1 ho1 hg1 _; refine Stop.mk ?_)
    have HO := hid ho1
    have HB : Hid (Below w.heap.size w w1) := below_app hB.out (World.ownsRow_made (size := 1) w #[] 0 (Nat.le_refl _) (Nat.zero_le _) rfl) hg1 (Nat.le_refl _) (by simp)
    clear ho1 hg1 heq h0
    refine Stop.go ?_
    go_wp2
    go_ret
    exact ⟨v', rfl, by simpa using HO.out, HB.out⟩
end Go.Proofs.YteiifligdfnifaaDoor
