/-
  Package reconf: New, Place, At, Number, Judge, Next; the document's Right and Place.
-/
import Derived.Test.YtmhlckicjojmoaaRows
import Derived.Test.YtmhlckicjojmoaaRecP
import Derived.Test.YtmhlckicjojmoaaCopyI
import Derived.Test.YtmhlckicjojmoaaObj
import Derived.Deep.QuietTactic
import Derived.BigQuiet
import Derived.RegionTactic
import Derived.Outline
import Derived.WalkSpells
namespace Go.Proofs.Ytmhlckicjojmoaa
open Go.RowKit
set_option maxRecDepth 20000
set_option linter.unusedVariables false

theorem bad_int (n : Int) (w : World) : Calls Try.prog 9 #[.int .i64 n] w fun e w' => e = .returned (.bool (decide (n < 0 ∨ 4611686018427387903 < n))) ∧ w = w' := by
  by_cases h : n < 0
  · go_enter Try.func9, Try.ntmps9
    go_wp2
    go_ret
    exact ⟨ret_v (by simp [h]), rfl⟩
  · go_enter Try.func9, Try.ntmps9
    go_wp2
    go_ret
    exact ⟨ret_v (by simp; omega), rfl⟩

set_option maxHeartbeats 1000000 in
theorem clone_ints (a : Option Addr) (c : Nat) (ns : List Int) (w : World) (hr : RowAt w a (ns.map (Value.int .i64))) (h0 : a = none → c = 0) (hm : ns.length * 8 ≤ 140737488355328) :
    Calls Try.prog 27 #[.slice a ns.length c] w fun e w' => ∃ v, e = .returned v ∧ w'.ownsRow w.heap.size 3 1 v ns.length (ns.map (Value.int .i64)) ∧ Below w.heap.size w w' := by
  have HR := hid hr
  have heq := Lib.run_eql_slice_nil (P := Try.prog) w 22 3 a ns.length c 0 0 Try.underlying22
  go_enter Try.func27, Try.ntmps27
  cases a with
  | none =>
    have hl : ns = [] := by simpa using hr.none
    subst hl
    obtain rfl := h0 rfl
    clear hr HR h0
    simp only [List.length_nil, Option.isNone_none] at heq
    go_wp2_with fail
    go_ret
    exact ⟨_, rfl, World.ownsRow_nil _ _ _ _, Below.refl _ _⟩
  | some ad =>
    clear hr h0
    have hB : Hid (Below w.heap.size w (w.alloc (.cells #[] 3))) := (Below.refl _ _).alloc (Nat.le_refl _) _
    have hown : Hid ((w.alloc (.cells #[] 3)).ownsRow w.heap.size 3 1 (.slice (some ⟨w.heap.size, 0, none⟩) 0 0) 0 []) := World.ownsRow_made w #[] 0 (Nat.le_refl _) (Nat.zero_le _) rfl
    go_wp2_with (at_builtin; refine wpList_app rfl (.tmp 5) (.tmp 6) 22 rfl w.heap.size 3 Try.underlying22 infoInt rfl (by omega) _ 0 [] rfl hown.out _ ns.length c (ns.map (Value.int .i64)) rfl (by simp) (HR.out.below hB.out) (oneCell_ints _ _) (by unfold maxLen; omega) (by omega) (by simp) (by simp) ?_; intro v' w1 ho1 hg1 _; refine Stop.mk ?_)
    have HO := hid ho1
    have HB := hid (hB.out.grown hg1 (by simp) (fun k hk => (hown.out.lt k hk).1))
    clear ho1 hg1 heq
    refine Stop.go ?_
    go_wp2
    go_ret
    exact ⟨v', rfl, by simpa using HO.out, HB.out⟩
set_option maxHeartbeats 1000000 in
theorem clone_mem (a : Option Addr) (c : Nat) (ns : List Int) (w : World) (hr : RowAt w a (ns.map (Value.int .i64))) (h0 : a = none → c = 0) (hm : ns.length * 8 ≤ 140737488355328) :
    Calls Try.prog 30 #[.slice a ns.length c] w fun e w' => ∃ v, e = .returned v ∧ w'.ownsRow w.heap.size 3 1 v ns.length (ns.map (Value.int .i64)) ∧ Below w.heap.size w w' := by
  have HR := hid hr
  have heq := Lib.run_eql_slice_nil (P := Try.prog) w 36 3 a ns.length c 0 0 Try.underlying36
  go_enter Try.func30, Try.ntmps30
  cases a with
  | none =>
    have hl : ns = [] := by simpa using hr.none
    subst hl
    obtain rfl := h0 rfl
    clear hr HR h0
    simp only [List.length_nil, Option.isNone_none] at heq
    go_wp2_with fail
    go_ret
    exact ⟨_, rfl, World.ownsRow_nil _ _ _ _, Below.refl _ _⟩
  | some ad =>
    clear hr h0
    have hB : Hid (Below w.heap.size w (w.alloc (.cells #[] 3))) := (Below.refl _ _).alloc (Nat.le_refl _) _
    have hown : Hid ((w.alloc (.cells #[] 3)).ownsRow w.heap.size 3 1 (.slice (some ⟨w.heap.size, 0, none⟩) 0 0) 0 []) := World.ownsRow_made w #[] 0 (Nat.le_refl _) (Nat.zero_le _) rfl
    go_wp2_with (at_builtin; refine wpList_app rfl (.tmp 5) (.tmp 6) 36 rfl w.heap.size 3 Try.underlying36 infoInt rfl (by omega) _ 0 [] rfl hown.out _ ns.length c (ns.map (Value.int .i64)) rfl (by simp) (HR.out.below hB.out) (oneCell_ints _ _) (by unfold maxLen; omega) (by omega) (by simp) (by simp) ?_; intro v' w1 ho1 hg1 _; refine Stop.mk ?_)
    have HO := hid ho1
    have HB := hid (hB.out.grown hg1 (by simp) (fun k hk => (hown.out.lt k hk).1))
    clear ho1 hg1 heq
    refine Stop.go ?_
    go_wp2
    go_ret
    exact ⟨v', rfl, by simpa using HO.out, HB.out⟩

/-- An epoch. -/
def EpAt (w : World) (b : Nat) (l : List Int) (n : Int) : Prop := ∃ v, ObjAt w b 38 #[v, .int .i64 n] ∧ IsInts w v l
theorem EpAt.below {w w' : World} {b : Nat} {l : List Int} {n : Int} (h : EpAt w b l n) (hb : Below w.heap.size w w') : EpAt w' b l n := by
  obtain ⟨v, h1, h2⟩ := h
  exact ⟨v, h1.below hb, h2.below hb⟩

def RightPost (l : List Int) (w : World) (e : Ending) (w' : World) : Prop := ∃ b, e = .returned (.bool b) ∧ (b = true ↔ RightM l) ∧ w = w'

set_option maxHeartbeats 1000000 in
theorem rec_right (a : Option Addr) (c : Nat) (l : List Int) (w : World) (hr : RowAt w a (l.map (Value.int .i64))) (hm : l.length ≤ 4611686018427387904) :
    Calls Try.prog 28 #[.slice a l.length c] w (RightPost l w) := by
  have HR := hid hr
  clear hr
  go_enter Try.func28, Try.ntmps28
  go_wp2_with fail
  go_loop [7] (fun i => ∃ k : Nat, i = .int .i64 k ∧ k ≤ l.length ∧ Hid (RightTo l k)) (fun i => l.length - (intOf i).toNat)
  case atStart => exact ⟨0, rfl, Nat.zero_le _, RightTo.zero l⟩
  case round =>
    obtain ⟨k, rfl, hk, HT⟩ := hrel
    by_cases hlt : k < l.length
    · obtain ⟨b, o, rfl, hc⟩ := HR.out.at k (by simpa using hlt)
      simp only [List.getElem_map] at hc
      by_cases h0 : 0 < k
      · have hc0 : w.cell? ⟨b, o + (k - 1), none⟩ = some (.int .i64 l[k - 1]) := by
          obtain ⟨b', o', e, hc'⟩ := HR.out.at (k - 1) (by simp; omega)
          simp only [List.getElem_map, Option.some.injEq, Addr.mk.injEq, and_true] at e hc'
          obtain ⟨rfl, rfl⟩ := e
          exact hc'
        have H1 := hid (fun h1 h2 (h3 : l[k - 1] < l[k]) => HT.out.succ hlt h1 h2 (fun _ => h3))
        have H2 : Hid (RightTo l l.length → 0 ≤ l[k] ∧ l[k] ≤ 31 ∧ l[k - 1] < l[k]) := fun h => ⟨(h k hlt hlt).1, (h k hlt hlt).2.1, (h k hlt hlt).2.2 h0⟩
        clear HR HT
        generalize l[k - 1] = y at *
        generalize l[k] = x at *
        by_cases hx0 : x < 0
        · go_wp2_with fail
          go_ret
          exact ⟨false, rfl, by simp; intro h; have := (H2.out h.1).1; omega, rfl⟩
        by_cases hx1 : 31 < x
        · go_wp2_with fail
          go_ret
          exact ⟨false, rfl, by simp; intro h; have := (H2.out h.1).2.1; omega, rfl⟩
        by_cases hxy : x ≤ y
        · go_wp2_with fail
          go_ret
          exact ⟨false, rfl, by simp; intro h; have := (H2.out h.1).2.2; omega, rfl⟩
        · go_wp2_with fail
          go_round
          case rel => exact ⟨k + 1, by go_num, by omega, H1.out (by omega) (by omega) (by omega)⟩
          case measure => simp [intOf]; omega
      · obtain rfl : k = 0 := by omega
        have H1 := hid (fun h1 h2 => HT.out.succ hlt h1 h2 (fun h => by omega))
        have H2 : Hid (RightTo l l.length → 0 ≤ l[0] ∧ l[0] ≤ 31) := fun h => ⟨(h 0 hlt hlt).1, (h 0 hlt hlt).2.1⟩
        clear HR HT
        rw [Nat.add_zero] at hc
        generalize l[0] = x at *
        by_cases hx0 : x < 0
        · go_wp2_with fail
          go_ret
          exact ⟨false, rfl, by simp; intro h; have := (H2.out h.1).1; omega, rfl⟩
        by_cases hx1 : 31 < x
        · go_wp2_with fail
          go_ret
          exact ⟨false, rfl, by simp; intro h; have := (H2.out h.1).2; omega, rfl⟩
        · go_wp2_with fail
          go_round
          case rel => exact ⟨1, by go_num, by omega, H1.out (by omega) (by omega)⟩
          case measure => simp [intOf]; omega
    · obtain rfl : k = l.length := by omega
      by_cases h1 : 1 ≤ l.length
      · by_cases h7 : l.length ≤ 7
        · go_wp2_with fail
          go_ret
          exact ⟨_, rfl, by simp [RightM, HT.out]; omega, rfl⟩
        · go_wp2_with fail
          go_ret
          exact ⟨_, rfl, by simp [RightM, HT.out]; omega, rfl⟩
      · go_wp2_with fail
        go_ret
        exact ⟨_, rfl, by simp [RightM]; omega, rfl⟩
end Go.Proofs.Ytmhlckicjojmoaa
