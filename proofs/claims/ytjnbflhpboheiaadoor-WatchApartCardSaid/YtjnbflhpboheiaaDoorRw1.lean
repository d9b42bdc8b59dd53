/-
  The document's hub, empty: what it answers does not matter.
-/
import Derived.Test.YtjnbflhpboheiaaDoorWtH
import Derived.Test.YtjnbflhpboheiaaDoorPathR4
namespace Go.Proofs.YtjnbflhpboheiaaDoor
open Go.RowKit Go.ChangeMaps
set_option maxRecDepth 20000
set_option linter.unusedVariables false

def BoolP (e : Ending) : Prop := ∃ b : Bool, e = .returned (.bool b)
theorem rf_bad (n : Int) (w : World) : Calls Tryd.prog 44 #[.int .i64 n] w fun e w' => BoolP e ∧ w = w' := by
  go_enter Tryd.func44, Tryd.ntmps44
  by_cases h : n < 0
  · go_wp2_with fail
    go_ret
    exact ⟨⟨_, rfl⟩, rfl⟩
  · go_wp2_with fail
    go_ret
    exact ⟨⟨_, rfl⟩, rfl⟩
set_option maxHeartbeats 2000000 in
theorem rf_check (home : List UInt8) (n kind : Int) (p : List UInt8) (w : World) : Calls Tryd.prog 37 #[tkey home, .int .i64 n, .int .i64 kind, tkey p] w fun e w' => (∃ r : Int, e = .returned (.int .i64 r)) ∧ Below w.heap.size w w' := by
  go_enter Tryd.func37, Tryd.ntmps37
  by_cases h12 : kind = 1 ∨ kind = 2
  · rcases h12 with rfl | rfl
    all_goals
      go_wp2_with fail
      refine (ref_home ⟨p.toArray⟩ _).mono ?_
      rintro e2 w2 ⟨rfl, hb⟩
      have HB := hid hb
      clear hb
      generalize homeP (bl ⟨p.toArray⟩) = hm
      rw [show txt hm = tkey hm from rfl]
      cases (parts (bl ⟨p.toArray⟩)).isSome with
      | false =>
        go_wp2_with fail
        go_ret
        exact ⟨⟨_, rfl⟩, HB.out⟩
      | true =>
        by_cases hh : hm = home
        · subst hh
          go_wp2_with fail
          refine (ref_name ⟨hm.toArray⟩ _).mono ?_
          rintro e3 w3 ⟨rfl, rfl⟩
          cases nameOk (bl ⟨hm.toArray⟩) with
          | false =>
            go_wp2_with fail
            go_ret
            exact ⟨⟨_, rfl⟩, HB.out⟩
          | true =>
            by_cases h1 : n < 1
            · go_wp2_with fail
              go_ret
              exact ⟨⟨_, rfl⟩, HB.out⟩
            · go_wp2_with fail
              refine (rf_bad n _).mono ?_
              rintro e4 w4 ⟨⟨b, rfl⟩, rfl⟩
              cases b
              all_goals
                go_wp2_with fail
                go_ret
                exact ⟨⟨_, rfl⟩, HB.out⟩
        · go_wp2_with fail
          go_ret
          exact ⟨⟨_, rfl⟩, HB.out⟩
  · have e1 : (kind != 1) = true := bne_iff_ne.2 (by omega)
    have e2 : (kind != 2) = true := bne_iff_ne.2 (by omega)
    clear h12
    go_wp2_with fail
    go_ret
    exact ⟨⟨_, rfl⟩, Below.refl _ _⟩
def Rf0 (w : World) (xb : Nat) : Prop := ObjAt w xb 52 #[.slice none 0 0]
theorem Rf0.below {w w' : World} {xb : Nat} (h : Rf0 w xb) (hb : Below w.heap.size w w') : Rf0 w' xb := ObjAt.below h hb
theorem rf_find0 (xb : Nat) (home : List UInt8) (n : Int) (w : World) (h : Rf0 w xb) : Calls Tryd.prog 38 #[.pointer (some ⟨xb, 0, none⟩), tkey home, .int .i64 n] w fun e w' => e = .returned (.int .i64 (-1)) ∧ w = w' := by
  have c0 := ObjAt.cell h 0 (.slice none 0 0) rfl
  clear h
  go_enter Tryd.func38, Tryd.ntmps38
  go_wp2_with fail
  go_loop [7] (fun i => i = .int .i64 0) (fun _ => 0)
  case atStart => rfl
  case round =>
    subst hrel
    go_wp2_with fail
    go_ret
    exact ⟨rfl, rfl⟩
theorem rf_find1 (xb g c : Nat) (home : List UInt8) (n : Int) (w : World) (h : ObjAt w xb 52 #[.slice (some ⟨g, 0, none⟩) 1 c]) (h0 : w.cell? ⟨g, 0, none⟩ = some (tkey home)) (h1 : w.cell? ⟨g, 1, none⟩ = some (.int .i64 n)) : Calls Tryd.prog 38 #[.pointer (some ⟨xb, 0, none⟩), tkey home, .int .i64 n] w fun e w' => e = .returned (.int .i64 0) ∧ w = w' := by
  have c0 := ObjAt.cell h 0 (.slice (some ⟨g, 0, none⟩) 1 c) rfl
  clear h
  go_enter Tryd.func38, Tryd.ntmps38
  go_wp2_with fail
  go_loop [7] (fun i => i = .int .i64 0) (fun _ => 0)
  case atStart => rfl
  case round =>
    subst hrel
    go_wp2_with fail
    go_ret
    exact ⟨rfl, rfl⟩
theorem rf_one0 (xb : Nat) (k1 k2 : Int) (p : List UInt8) (w : World) (h : Rf0 w xb) : Calls Tryd.prog 40 #[.pointer (some ⟨xb, 0, none⟩), .agg #[.int .i64 k1, tkey p], .int .i64 k2] w fun e w' => e = .returned (.int .i64 0) ∧ Below w.heap.size w w' := by
  have HB := hid (below_new (w := w) (.cells #[.int .i64 k1, tkey p] 86))
  have c0 := ObjAt.cell (h.below HB.out) 0 (.slice none 0 0) rfl
  clear h
  go_enter Tryd.func40, Tryd.ntmps40
  go_wp2_with fail
  go_loop [7, 8] (fun n i => n = .int .i64 0 ∧ i = .int .i64 0) (fun _ _ => 0)
  case atStart => exact ⟨rfl, rfl⟩
  case round =>
    obtain ⟨rfl, rfl⟩ := hrel
    go_wp2_with fail
    go_ret
    exact ⟨rfl, HB.out⟩
theorem rf_Ack0 (xb : Nat) (home : List UInt8) (n k : Int) (w : World) (h : Rf0 w xb) : Calls Tryd.prog 26 #[.pointer (some ⟨xb, 0, none⟩), tkey home, .int .i64 n, .int .i64 k] w fun e w' => (∃ r : Int, e = .returned (.int .i64 r)) ∧ w = w' := by
  go_enter Tryd.func26, Tryd.ntmps26
  go_wp2_with fail
  refine (rf_find0 xb home n _ h).mono ?_
  rintro e w1 ⟨rfl, rfl⟩
  rcases (by omega : k < 0 ∨ ¬ k < 0 ∧ 0 < k ∨ ¬ k < 0 ∧ ¬ 0 < k) with h1 | ⟨h1, h2⟩ | ⟨h1, h2⟩
  all_goals
    go_wp2_with fail
    go_ret
    exact ⟨⟨_, rfl⟩, rfl⟩
theorem rf_Drop0 (xb : Nat) (home : List UInt8) (n : Int) (w : World) (h : Rf0 w xb) : Calls Tryd.prog 28 #[.pointer (some ⟨xb, 0, none⟩), tkey home, .int .i64 n] w fun e w' => e = .returned (.tuple #[]) ∧ w = w' := by
  go_enter Tryd.func28, Tryd.ntmps28
  go_wp2_with fail
  refine (rf_find0 xb home n _ h).mono ?_
  rintro e w1 ⟨rfl, rfl⟩
  go_wp2_with fail
  go_end0
  exact ⟨rfl, rfl⟩
set_option maxHeartbeats 2000000 in
theorem rf_Fire0 (xb : Nat) (kind : Int) (p : List UInt8) (w : World) (h : Rf0 w xb) : Calls Tryd.prog 25 #[.pointer (some ⟨xb, 0, none⟩), .int .i64 kind, tkey p] w fun e w' => e = .returned (.int .i64 0) ∧ Below w.heap.size w w' := by
  go_enter Tryd.func25, Tryd.ntmps25
  go_wp2_with fail
  refine (ref_parent ⟨p.toArray⟩ _).mono ?_
  rintro e2 w2 ⟨rfl, hb⟩
  have HB := hid hb
  have H2 := hid (h.below hb)
  clear hb h
  generalize (parentP (bl ⟨p.toArray⟩)).getD [] = up
  rw [show txt up = tkey up from rfl]
  cases (parentP (bl ⟨p.toArray⟩)).isSome with
  | false =>
    go_wp2_with fail
    go_ret
    exact ⟨rfl, HB.out⟩
  | true =>
    rcases (by omega : kind < 1 ∨ 3 < kind ∨ kind = 1 ∨ kind = 2 ∨ kind = 3) with hlo | hhi | rfl | rfl | rfl
    · go_wp2_with fail
      go_ret
      exact ⟨rfl, HB.out⟩
    · go_wp2_with fail
      go_ret
      exact ⟨rfl, HB.out⟩
    · go_wp2_with fail
      refine (rf_one0 xb 1 1 p _ H2.out).mono ?_
      rintro e3 w3 ⟨rfl, hb⟩
      have HB3 := hid (below_next HB.out hb)
      have H3 := hid (H2.out.below hb)
      clear hb
      go_wp2_with fail
      refine (rf_one0 xb 2 4 up _ H3.out).mono ?_
      rintro e4 w4 ⟨rfl, hb⟩
      have HB4 := hid (below_next HB3.out hb)
      clear hb
      go_wp2_with fail
      go_ret
      exact ⟨rfl, HB4.out⟩
    · go_wp2_with fail
      refine (rf_one0 xb 1 2 p _ H2.out).mono ?_
      rintro e3 w3 ⟨rfl, hb⟩
      have HB3 := hid (below_next HB.out hb)
      have H3 := hid (H2.out.below hb)
      clear hb
      go_wp2_with fail
      refine (rf_one0 xb 2 4 up _ H3.out).mono ?_
      rintro e4 w4 ⟨rfl, hb⟩
      have HB4 := hid (below_next HB3.out hb)
      have H4 := hid (H3.out.below hb)
      clear hb
      go_wp2_with fail
      refine (rf_one0 xb 2 4 p _ H4.out).mono ?_
      rintro e5 w5 ⟨rfl, hb⟩
      have HB5 := hid (below_next HB4.out hb)
      clear hb
      go_wp2_with fail
      go_ret
      exact ⟨rfl, HB5.out⟩
    · go_wp2_with fail
      refine (rf_one0 xb 1 3 p _ H2.out).mono ?_
      rintro e3 w3 ⟨rfl, hb⟩
      have HB3 := hid (below_next HB.out hb)
      clear hb
      go_wp2_with fail
      go_ret
      exact ⟨rfl, HB3.out⟩
end Go.Proofs.YtjnbflhpboheiaaDoor
