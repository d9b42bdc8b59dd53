/-
  The document's Others and Stays; awake.
-/
import Derived.Test.YtmhlckicjojmoaaRec9
import Derived.Test.YtmhlckicjojmoaaRec2
namespace Go.Proofs.Ytmhlckicjojmoaa
open Go.RowKit
set_option maxRecDepth 20000
set_option linter.unusedVariables false

theorem filt_keep {p : Int → Bool} {l : List Int} {k : Nat} (hk : k < l.length) (e : p l[k] = true) : (l.take (k + 1)).filter p = (l.take k).filter p ++ [l[k]] := by
  rw [List.take_succ_eq_append_getElem hk, List.filter_append]; simp [e]
theorem filt_drop {p : Int → Bool} {l : List Int} {k : Nat} (hk : k < l.length) (e : p l[k] = false) : (l.take (k + 1)).filter p = (l.take k).filter p := by
  rw [List.take_succ_eq_append_getElem hk, List.filter_append]; simp [e]
theorem filt_len {p : Int → Bool} {l : List Int} {k : Nat} : ((l.take k).filter p).length ≤ l.length := by
  refine Nat.le_trans (List.length_filter_le _ _) ?_
  simp; omega

set_option maxHeartbeats 1000000 in
theorem refr_others (a : Option Addr) (c : Nat) (l : List Int) (me : Int) (w : World) (hr : RowAt w a (l.map (Value.int .i64))) (hm : l.length ≤ 1000) :
    Calls Try.prog 19 #[.slice a l.length c, .int .i64 me] w fun e w' => ∃ v, e = .returned v ∧ IsInts w' v (l.filter fun x => !(x == me)) ∧ Below w.heap.size w w' := by
  have HR := hid hr
  clear hr
  go_enter Try.func19, Try.ntmps19
  go_wp2_with fail
  go_loopw [5, 6] (fun dv i wr => ∃ k : Nat, i = .int .i64 k ∧ k ≤ l.length ∧ Hid (wr.ownsRow w.heap.size 3 1 dv ((l.take k).filter fun x => !(x == me)).length (((l.take k).filter fun x => !(x == me)).map (Value.int .i64))) ∧ Hid (Below w.heap.size w wr)) (fun _ i _ => l.length - (intOf i).toNat)
  case atStart => exact ⟨0, rfl, Nat.zero_le _, by simp; exact World.ownsRow_nil _ _ _ _, Below.refl _ _⟩
  case round =>
    obtain ⟨k, rfl, hk, HO, HB⟩ := hrel
    by_cases hlt : k < l.length
    · obtain ⟨b, o, rfl, hc⟩ := HR.out.at k (by simpa using hlt)
      simp only [List.getElem_map] at hc
      have hcw := (HB.out.cell (p := ⟨b, o + k, none⟩) (lt_of_cell hc)).trans hc
      have hfl := filt_len (p := fun x => !(x == me)) (l := l) (k := k)
      have H1 := hid (filt_keep (p := fun x => !(x == me)) hlt)
      have H2 := hid (filt_drop (p := fun x => !(x == me)) hlt)
      have hws := HB.out.size
      clear HR hc
      generalize hD : (l.take k).filter (fun x => !(x == me)) = D at *
      generalize l[k] = x at *
      clear hD
      obtain ⟨da, dc, rfl, -⟩ := owns_row HO.out
      by_cases hx : x = me
      · have e1 : (x == me) = true := beq_iff_eq.2 hx
        have e2 : (x != me) = false := by unfold bne; rw [e1]; rfl
        have HX := hid (H2.out (by rw [e1]; rfl))
        clear hx H1 H2
        go_wp2_with fail
        go_roundw
        case rel => exact ⟨k + 1, by go_num, by omega, by rw [HX.out]; exact HO, HB⟩
        case measure => simp [intOf]; omega
      · have e1 : (x == me) = false := beq_eq_false_iff_ne.2 hx
        have e2 : (x != me) = true := by unfold bne; rw [e1]; rfl
        have HX := hid (H1.out (by rw [e1]; rfl))
        clear hx H1 H2
        have HO' : Hid (wr.ownsRow w.heap.size 3 1 (.slice da D.length dc) (D.map (Value.int .i64)).length (D.map (Value.int .i64))) := by
          show wr.ownsRow _ _ _ _ _ _
          rw [List.length_map]; exact HO.out
        go_wp2_with (at_builtin; refine wpList_app_one rfl (.tmp 19) (.tmp 24) 22 rfl w.heap.size 3 Try.underlying22 infoInt rfl _ _ (.int .i64 x) rfl HO'.out rfl rfl (by simp; omega) (by simp; unfold maxLen; omega) hws ?_; intro v1 w1 ho1 hb1; refine Stop.mk ?_)
        have HO1 := hid ho1
        have HB1 := hid (HB.out.trans hb1)
        clear ho1 hb1 HO HO' HB
        refine Stop.go ?_
        go_wp2_with fail
        go_roundw
        case rel => exact ⟨k + 1, by go_num, by omega, by rw [HX.out]; exact hid (by simpa using HO1.out), HB1⟩
        case measure => simp [intOf]; omega
    · obtain rfl : k = l.length := by omega
      have ho2 := HO.out
      rw [List.take_length] at ho2
      have HO2 := hid ho2
      clear HO ho2
      go_wp2_with fail
      go_ret
      exact ⟨_, rfl, owns_ints HO2.out, HB.out⟩
set_option maxHeartbeats 1000000 in
theorem refr_stays (a a2 : Option Addr) (c c2 : Nat) (l fl : List Int) (w : World) (hr : RowAt w a (l.map (Value.int .i64))) (hr2 : RowAt w a2 (fl.map (Value.int .i64))) (hm : l.length ≤ 1000) (hm2 : fl.length ≤ 1000) :
    Calls Try.prog 23 #[.slice a l.length c, .slice a2 fl.length c2] w fun e w' => ∃ v, e = .returned v ∧ IsInts w' v (l.filter fun x => !(!placeB fl x)) ∧ Below w.heap.size w w' := by
  have HR := hid hr
  have HR2 := hid hr2
  clear hr hr2
  go_enter Try.func23, Try.ntmps23
  go_wp2_with fail
  go_loopw [5, 6] (fun dv i wr => ∃ k : Nat, i = .int .i64 k ∧ k ≤ l.length ∧ Hid (wr.ownsRow w.heap.size 3 1 dv ((l.take k).filter fun x => !(!placeB fl x)).length (((l.take k).filter fun x => !(!placeB fl x)).map (Value.int .i64))) ∧ Hid (Below w.heap.size w wr)) (fun _ i _ => l.length - (intOf i).toNat)
  case atStart => exact ⟨0, rfl, Nat.zero_le _, by simp; exact World.ownsRow_nil _ _ _ _, Below.refl _ _⟩
  case round =>
    obtain ⟨k, rfl, hk, HO, HB⟩ := hrel
    by_cases hlt : k < l.length
    · obtain ⟨b, o, rfl, hc⟩ := HR.out.at k (by simpa using hlt)
      simp only [List.getElem_map] at hc
      have hcw := (HB.out.cell (p := ⟨b, o + k, none⟩) (lt_of_cell hc)).trans hc
      have hfl := filt_len (p := fun x => !(!placeB fl x)) (l := l) (k := k)
      have H1 := hid (filt_keep (p := fun x => !(!placeB fl x)) hlt)
      have H2 := hid (filt_drop (p := fun x => !(!placeB fl x)) hlt)
      have hws := HB.out.size
      have hpl := fun x => refr_place a2 c2 fl x wr (HR2.out.below HB.out) (by omega)
      clear HR hc HR2
      generalize hD : (l.take k).filter (fun x => !(!placeB fl x)) = D at *
      generalize l[k] = x at *
      clear hD
      obtain ⟨da, dc, rfl, -⟩ := owns_row HO.out
      have hcall := hpl x
      clear hpl
      by_cases hx : 0 ≤ placeI fl x
      · have HX := hid (H1.out (by show (!(!placeB fl x)) = true; unfold placeB; rw [decide_eq_true hx]; rfl))
        clear H1 H2
        have HO' : Hid (wr.ownsRow w.heap.size 3 1 (.slice da D.length dc) (D.map (Value.int .i64)).length (D.map (Value.int .i64))) := by
          show wr.ownsRow _ _ _ _ _ _
          rw [List.length_map]; exact HO.out
        go_wp2_with fail
        refine hcall.mono ?_
        rintro e w' ⟨rfl, rfl⟩
        go_wp2_with (at_builtin; refine wpList_app_one rfl (.tmp 20) (.tmp 25) 22 rfl w.heap.size 3 Try.underlying22 infoInt rfl _ _ (.int .i64 x) rfl HO'.out rfl rfl (by simp; omega) (by simp; unfold maxLen; omega) hws ?_; intro v1 w1 ho1 hb1; refine Stop.mk ?_)
        have HO1 := hid ho1
        have HB1 := hid (HB.out.trans hb1)
        clear ho1 hb1 HO HO' HB
        refine Stop.go ?_
        go_wp2_with fail
        go_roundw
        case rel => exact ⟨k + 1, by go_num, by omega, by rw [HX.out]; exact hid (by simpa using HO1.out), HB1⟩
        case measure => simp [intOf]; omega
      · have HX := hid (H2.out (by show (!(!placeB fl x)) = false; unfold placeB; rw [decide_eq_false hx]; rfl))
        clear H1 H2
        go_wp2_with fail
        refine hcall.mono ?_
        rintro e w' ⟨rfl, rfl⟩
        go_wp2_with fail
        go_roundw
        case rel => exact ⟨k + 1, by go_num, by omega, by rw [HX.out]; exact HO, HB⟩
        case measure => simp [intOf]; omega
    · obtain rfl : k = l.length := by omega
      have ho2 := HO.out
      rw [List.take_length] at ho2
      have HO2 := hid ho2
      clear HO ho2
      go_wp2_with fail
      go_ret
      exact ⟨_, rfl, owns_ints HO2.out, HB.out⟩
end Go.Proofs.Ytmhlckicjojmoaa
