/-
  bytes.Clone.
-/
import Derived.Test.YteiifligdfnifaaDoorJoin
import Derived.WalkSpells
namespace Go.Proofs.YteiifligdfnifaaDoor
open Go.RowKit
set_option maxRecDepth 20000

set_option maxHeartbeats 400000 in
theorem bytes_clone (v : Value) (l : List UInt8) (w : World) (hv : IsBytes w v l) (hm : l.length ≤ 140737488355328) :
    Calls Tryd.prog 55 #[v] w fun e w' => ∃ v, e = .returned v ∧ w'.ownsRow w.heap.size 5 1 v l.length (l.map byt) ∧ Below w.heap.size w w' := by
  have HV := hid hv
  obtain ⟨a, c, rfl, hr, _⟩ := hv
  have heq := Lib.run_eql_slice_nil (P := Tryd.prog) w 37 5 a l.length c 0 0 Tryd.underlying37
  go_enter Tryd.func55, Tryd.ntmps55
  cases a with
  | none =>
    have hl : l = [] := by simpa using hr.none
    subst hl
    clear hr
    simp only [List.length_nil, Option.isNone_none] at heq
    obtain ⟨_, _, e, _, h0, _⟩ := HV.out
    simp only [Value.slice.injEq] at e
    obtain ⟨rfl, _, rfl⟩ := e
    obtain rfl := h0 rfl
    clear h0 HV
    go_wp2_with fail
    go_ret
    exact ⟨_, rfl, World.ownsRow_nil _ _ _ _, Below.refl _ _⟩
  | some ad =>
    clear hr
    have hB : Hid (Below w.heap.size w (w.alloc (.cells #[] 5))) := (Below.refl _ _).alloc (Nat.le_refl _) _
    go_wp2_with (at_builtin; refine wpList_app_bytes rfl (.tmp 5) (.tmp 6) 37 rfl w.heap.size 5 Tryd.underlying37 info5 _ _ [] l rfl (World.ownsRow_made w #[] 0 (Nat.le_refl _) (Nat.zero_le _) rfl) rfl (HV.out.below hB.out) (by simpa using hm) (by simp) ?_; intro v' w1 ho1 hb1; refine Stop.mk ?_)
    have HO := hid ho1
    have HB := hid (hB.out.trans hb1)
    clear ho1 hb1 heq
    refine Stop.go ?_
    go_wp2
    go_ret
    exact ⟨v', rfl, by simpa using HO.out, HB.out⟩
end Go.Proofs.YteiifligdfnifaaDoor
