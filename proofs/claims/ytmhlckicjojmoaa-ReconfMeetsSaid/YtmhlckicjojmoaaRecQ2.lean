/-
  Insertion sorts.
-/
import Derived.Test.YtmhlckicjojmoaaRecQ1
import Derived.BigRegion
namespace Go.Proofs.Ytmhlckicjojmoaa
open Go.RowKit
set_option maxRecDepth 20000
set_option linter.unusedVariables false

/-- The block g holds l0's ints in order. -/
def SortedAt (w : World) (g n : Nat) (l0 : List Int) (R : Int → Int → Prop) (w' : World) : Prop :=
  ∃ (L : List Int) (cu : Array Value), L.Perm l0 ∧ L.Pairwise R ∧ ObjAt w' g 3 cu ∧ Cells cu L ∧ cu.size = n ∧ Below g w w'

set_option maxHeartbeats 4000000 in
theorem ins_sortQ (bv : Value) (t : Int → Int → Int) (R : Int → Int → Prop) (tr : ∀ x y z, R x y → R y z → R x z) (g cap : Nat) (l0 : List Int) (w : World) (cur : Array Value) (ho : ObjAt w g 3 cur) (hc : Cells cur l0) (hm : l0.length ≤ 1000)
    (hp : ∀ x ∈ l0, ∀ y ∈ l0, ∀ w', Below g w w' → Calls Try.prog 39 #[.int .i64 x, .int .i64 y, bv] w' fun e w'' => e = .returned (.int .i64 (t x y)) ∧ ∃ n, w'' = w'.drewN n)
    (hT : ∀ x ∈ l0, ∀ y ∈ l0, t x y < 0 → R x y) (hF : ∀ (i : Nat) (x y : Int), l0[i]? = some x → y ∈ l0.take i → ¬ t x y < 0 → R y x) :
    Calls Try.prog 52 #[.slice (some ⟨g, 0, none⟩) l0.length cap, .int .i64 0, .int .i64 l0.length, .func (.func 39) #[] #[bv]] w fun e w' =>
      e = .returned (.tuple #[]) ∧ SortedAt w g cur.size l0 R w' := by
  have HO := hid ho
  have HC := hid hc
  have HP := hid hp
  have HT := hid hT
  have HF := hid hF
  have TR := hid tr
  clear ho hc hp hT hF tr
  have HS := hid (InsO.start R l0)
  have HBr := hid (Below.refl g w)
  go_enter Try.func52, Try.ntmps52
  go_wp2_with fail
  go_loopw [8] (fun s wr => ∃ (i : Nat) (L : List Int) (cu : Array Value), s = .int .i64 i ∧ 1 ≤ i ∧ (i ≤ l0.length ∨ i = 1) ∧ Hid (L.length = l0.length) ∧ Hid (cu.size = cur.size) ∧ Hid (InsO R l0 i L) ∧ Hid (ObjAt wr g 3 cu) ∧ Hid (Cells cu L) ∧ Hid (Below g w wr)) (fun s _ => l0.length - (intOf s).toNat)
  case atStart => exact ⟨1, l0, cur, rfl, Nat.le_refl _, .inr rfl, rfl, rfl, HS, HO, HC, HBr⟩
  case round =>
    clear HS HBr HO HC
    obtain ⟨i, L, cu, rfl, hi1, hin, HL, HZ, HS, HO, HC, HB⟩ := hrel
    by_cases hlt : i < l0.length
    · have HI := hid (HS.out.enter hlt)
      obtain ⟨wo, rfl⟩ : ∃ wo : World, wo = wr := ⟨_, rfl⟩
      clear hin HS
      go_wp2_with fail
      go_loopw [9] (fun s wr2 => ∃ (j : Nat) (L2 : List Int) (cu2 : Array Value), s = .int .i64 j ∧ j ≤ i ∧ Hid (L2.length = l0.length) ∧ Hid (cu2.size = cur.size) ∧ Hid (InsI R l0 i j L2) ∧ Hid (ObjAt wr2 g 3 cu2) ∧ Hid (Cells cu2 L2) ∧ Hid (Below g w wr2)) (fun s _ => (intOf s).toNat)
      case atStart => exact ⟨i, L, cu, rfl, Nat.le_refl _, HL, HZ, HI, HO, HC, HB⟩
      case round =>
        clear HI HO HC HB HL HZ
        obtain ⟨j, L2, cu2, rfl, hji, HL, HZ, HI, HO, HC, HB⟩ := hrel
        by_cases hj0 : j = 0
        · have OUT := hid (HI.out.done TR.out (.inl hj0))
          have hjd : decide (0 < j) = false := decide_eq_false (by omega)
          have hjn : ¬ 0 < j := by omega
          clear hj0 HI
          go_wp2_with fail
          go_quiet (fail)
          have HO2 : Hid (ObjAt (wr.drewN nq) g 3 cu2) := HO.out
          have HB2 : Hid (Below g w (wr.drewN nq)) := HB.out.trans (below_drewN' nq)
          generalize wr.drewN nq = w3 at *
          go_wp2
          go_roundw
          case rel => exact ⟨i + 1, L2, cu2, by go_num, by omega, .inl (by omega), HL, HZ, OUT, HO2, HC, HB2⟩
          case measure => simp [intOf]; omega
        · obtain ⟨jp, rfl⟩ : ∃ jp, j = jp + 1 := ⟨j - 1, by omega⟩
          obtain ⟨x, y, hx, hy, hxi, hyt⟩ := HI.out.at
          obtain ⟨hjx, ex⟩ := List.getElem?_eq_some_iff.1 hx
          obtain ⟨hjy, ey⟩ := List.getElem?_eq_some_iff.1 hy
          have hll := HL.out
          have hxm : x ∈ l0 := List.mem_of_getElem? hxi
          have hym : y ∈ l0 := List.mem_of_mem_take hyt
          have hct : ∀ n, Calls Try.prog 39 #[.int .i64 x, .int .i64 y, bv] (wr.drewN n) fun e w' => e = .returned (.int .i64 (t x y)) ∧ ∃ q, w' = (wr.drewN n).drewN q := fun n => HP.out x hxm y hym _ (HB.out.trans (below_drewN' n))
          have cx : wr.cell? ⟨g, jp + 1, none⟩ = some (.int .i64 x) := HO.out.cell (jp + 1) _ (by rw [HC.out.2 _ hjx, ex])
          have cy : wr.cell? ⟨g, jp, none⟩ = some (.int .i64 y) := HO.out.cell jp _ (by rw [HC.out.2 _ hjy, ey])
          have hT1 := hid (HT.out x hxm y hym)
          have hF1 := hid (HF.out i x y hxi hyt)
          have HX := hid hx
          have HY := hid hy
          have hl0 : jp + 1 < l0.length := by omega
          clear hx hy ex ey hjx hjy hll hxm hym hxi hyt hj0
          have hwp : IntKind.i64.wrap (jp : Int) = (jp : Int) := by rw [IntKind.wrap_i64]; omega
          have jz : (jp : Int) + 1 < (l0.length : Int) := by omega
          have jz1 : (jp : Int) < (l0.length : Int) := by omega
          have p0 : (0 : Int) ≤ (jp : Int) + 1 := by omega
          have p1 : (0 : Int) < (jp : Int) + 1 := by omega
          have p2 : 0 < jp + 1 := by omega
          have e0 : ((jp : Int) + 1).toNat = jp + 1 := by omega
          by_cases hlv : t x y < 0
          · have HI3 := hid (HI.out.swap HX.out HY.out (hT1.out (by omega)))
            clear hT1 hF1 HI HX HY
            go_wp2_with fail
            go_quiet (first | (go_at_call 39; exact Calls.quiet_of (hct _)))
            have HO2 : Hid (ObjAt (wr.drewN nq) g 3 cu2) := HO.out
            have HB2 : Hid (Below g w (wr.drewN nq)) := HB.out.trans (below_drewN' nq)
            have cx2 : (wr.drewN nq).cell? ⟨g, jp + 1, none⟩ = some (.int .i64 x) := cx
            have cy2 : (wr.drewN nq).cell? ⟨g, jp, none⟩ = some (.int .i64 y) := cy
            have fx2 : (wr.drewN nq).frozen? ⟨g, jp + 1, none⟩ = false := HO.out.frozen _
            have fy2 : (wr.drewN nq).frozen? ⟨g, jp, none⟩ = false := HO.out.frozen _
            clear cx cy hct HB HO
            generalize wr.drewN nq = w3 at *
            go_wp2_with fail
            obtain ⟨j1, hj1⟩ : ∃ j1, j1 = jp + 1 := ⟨_, rfl⟩
            rw [← hj1] at cx2 fx2 e0
            have J1 := hid hj1
            clear hj1
            go_big_region
            all_goals go_wp2
            obtain rfl : j1 = jp + 1 := J1.out
            refine ⟨⟨jp, (L2.set (jp + 1) y).set jp x, (cu2.setIfInBounds (jp + 1) (.int .i64 y)).setIfInBounds jp (.int .i64 x), rfl, by omega, ?_, ?_, HI3, ?_, ?_, ?_⟩, by simp [intOf]⟩
            · show _ = _
              rw [List.length_set, List.length_set]; exact HL.out
            · show _ = _
              rw [Array.size_setIfInBounds, Array.size_setIfInBounds]; exact HZ.out
            · exact (HO2.out.set (jp + 1) (.int .i64 y)).set jp (.int .i64 x)
            · exact (HC.out.set (jp + 1) y).set jp x
            · exact (HB2.out.trans (((Kept.set (B := g) w3 ⟨g, jp + 1, none⟩ (.int .i64 y)).trans (Kept.set (B := g) _ ⟨g, jp, none⟩ (.int .i64 x))).below (Nat.le_refl _))).trans (below_drewN' 1)
          · have OUT := hid (HI.out.done TR.out (.inr ⟨x, y, Nat.succ_pos _, HX.out, HY.out, hF1.out (by omega)⟩))
            clear hT1 hF1 HI HX HY
            go_wp2_with fail
            go_quiet (first | (go_at_call 39; exact Calls.quiet_of (hct _)))
            have HO2 : Hid (ObjAt (wr.drewN nq) g 3 cu2) := HO.out
            have HB2 : Hid (Below g w (wr.drewN nq)) := HB.out.trans (below_drewN' nq)
            clear hct
            generalize wr.drewN nq = w3 at *
            go_wp2
            go_roundw
            case rel => exact ⟨i + 1, L2, cu2, by go_num, by omega, .inl (by omega), HL, HZ, OUT, HO2, HC, HB2⟩
            case measure => simp [intOf]; omega
    · have hend := HS.out.done (by omega) HL.out
      have HE := hid hend
      clear hend HS
      go_wp2_with fail
      go_end0
      exact ⟨rfl, L, cu, HE.out.1, HE.out.2, HO.out, HC.out, HZ.out, HB.out⟩
set_option maxHeartbeats 4000000 in
theorem ins_sortO (R : Int → Int → Prop) (tr : ∀ x y z, R x y → R y z → R x z) (g cap : Nat) (l0 : List Int) (w : World) (cur : Array Value) (ho : ObjAt w g 3 cur) (hc : Cells cur l0) (hm : l0.length ≤ 1000)
    (hT : ∀ x ∈ l0, ∀ y ∈ l0, x < y → R x y) (hF : ∀ (i : Nat) (x y : Int), l0[i]? = some x → y ∈ l0.take i → ¬ x < y → R y x) :
    Calls Try.prog 54 #[.slice (some ⟨g, 0, none⟩) l0.length cap, .int .i64 0, .int .i64 l0.length] w fun e w' =>
      e = .returned (.tuple #[]) ∧ SortedAt w g cur.size l0 R w' := by
  have HO := hid ho
  have HC := hid hc
  have HT := hid hT
  have HF := hid hF
  have TR := hid tr
  clear ho hc hT hF tr
  have HS := hid (InsO.start R l0)
  have HBr := hid (Below.refl g w)
  go_enter Try.func54, Try.ntmps54
  go_wp2_with fail
  go_loopw [6] (fun s wr => ∃ (i : Nat) (L : List Int) (cu : Array Value), s = .int .i64 i ∧ 1 ≤ i ∧ (i ≤ l0.length ∨ i = 1) ∧ Hid (L.length = l0.length) ∧ Hid (cu.size = cur.size) ∧ Hid (InsO R l0 i L) ∧ Hid (ObjAt wr g 3 cu) ∧ Hid (Cells cu L) ∧ Hid (Below g w wr)) (fun s _ => l0.length - (intOf s).toNat)
  case atStart => exact ⟨1, l0, cur, rfl, Nat.le_refl _, .inr rfl, rfl, rfl, HS, HO, HC, HBr⟩
  case round =>
    clear HS HBr HO HC
    obtain ⟨i, L, cu, rfl, hi1, hin, HL, HZ, HS, HO, HC, HB⟩ := hrel
    by_cases hlt : i < l0.length
    · have HI := hid (HS.out.enter hlt)
      obtain ⟨wo, rfl⟩ : ∃ wo : World, wo = wr := ⟨_, rfl⟩
      clear hin HS
      go_wp2_with fail
      go_loopw [7] (fun s wr2 => ∃ (j : Nat) (L2 : List Int) (cu2 : Array Value), s = .int .i64 j ∧ j ≤ i ∧ Hid (L2.length = l0.length) ∧ Hid (cu2.size = cur.size) ∧ Hid (InsI R l0 i j L2) ∧ Hid (ObjAt wr2 g 3 cu2) ∧ Hid (Cells cu2 L2) ∧ Hid (Below g w wr2)) (fun s _ => (intOf s).toNat)
      case atStart => exact ⟨i, L, cu, rfl, Nat.le_refl _, HL, HZ, HI, HO, HC, HB⟩
      case round =>
        clear HI HO HC HB HL HZ
        obtain ⟨j, L2, cu2, rfl, hji, HL, HZ, HI, HO, HC, HB⟩ := hrel
        by_cases hj0 : j = 0
        · have OUT := hid (HI.out.done TR.out (.inl hj0))
          have hjd : decide (0 < j) = false := decide_eq_false (by omega)
          have hjn : ¬ 0 < j := by omega
          clear hj0 HI
          go_wp2_with fail
          go_quiet (fail)
          have HO2 : Hid (ObjAt (wr.drewN nq) g 3 cu2) := HO.out
          have HB2 : Hid (Below g w (wr.drewN nq)) := HB.out.trans (below_drewN' nq)
          generalize wr.drewN nq = w3 at *
          go_wp2
          go_roundw
          case rel => exact ⟨i + 1, L2, cu2, by go_num, by omega, .inl (by omega), HL, HZ, OUT, HO2, HC, HB2⟩
          case measure => simp [intOf]; omega
        · obtain ⟨jp, rfl⟩ : ∃ jp, j = jp + 1 := ⟨j - 1, by omega⟩
          obtain ⟨x, y, hx, hy, hxi, hyt⟩ := HI.out.at
          obtain ⟨hjx, ex⟩ := List.getElem?_eq_some_iff.1 hx
          obtain ⟨hjy, ey⟩ := List.getElem?_eq_some_iff.1 hy
          have hll := HL.out
          have hxm : x ∈ l0 := List.mem_of_getElem? hxi
          have hym : y ∈ l0 := List.mem_of_mem_take hyt
          have cx : wr.cell? ⟨g, jp + 1, none⟩ = some (.int .i64 x) := HO.out.cell (jp + 1) _ (by rw [HC.out.2 _ hjx, ex])
          have cy : wr.cell? ⟨g, jp, none⟩ = some (.int .i64 y) := HO.out.cell jp _ (by rw [HC.out.2 _ hjy, ey])
          have hT1 := hid (HT.out x hxm y hym)
          have hF1 := hid (HF.out i x y hxi hyt)
          have HX := hid hx
          have HY := hid hy
          have hl0 : jp + 1 < l0.length := by omega
          clear hx hy ex ey hjx hjy hll hxm hym hxi hyt hj0
          have hwp : IntKind.i64.wrap (jp : Int) = (jp : Int) := by rw [IntKind.wrap_i64]; omega
          have jz : (jp : Int) + 1 < (l0.length : Int) := by omega
          have jz1 : (jp : Int) < (l0.length : Int) := by omega
          have p0 : (0 : Int) ≤ (jp : Int) + 1 := by omega
          have p1 : (0 : Int) < (jp : Int) + 1 := by omega
          have p2 : 0 < jp + 1 := by omega
          have e0 : ((jp : Int) + 1).toNat = jp + 1 := by omega
          by_cases hlv : x < y
          · have HI3 := hid (HI.out.swap HX.out HY.out (hT1.out (by omega)))
            clear hT1 hF1 HI HX HY
            go_wp2_with fail
            go_quiet (first | (go_at_call 50; exact Calls.quiet_of_same ((cmp_less _ _ _).mono fun e w' h => ⟨h.1, h.2.symm⟩)))
            have HO2 : Hid (ObjAt (wr.drewN nq) g 3 cu2) := HO.out
            have HB2 : Hid (Below g w (wr.drewN nq)) := HB.out.trans (below_drewN' nq)
            have cx2 : (wr.drewN nq).cell? ⟨g, jp + 1, none⟩ = some (.int .i64 x) := cx
            have cy2 : (wr.drewN nq).cell? ⟨g, jp, none⟩ = some (.int .i64 y) := cy
            have fx2 : (wr.drewN nq).frozen? ⟨g, jp + 1, none⟩ = false := HO.out.frozen _
            have fy2 : (wr.drewN nq).frozen? ⟨g, jp, none⟩ = false := HO.out.frozen _
            clear cx cy HB HO
            generalize wr.drewN nq = w3 at *
            go_wp2_with fail
            obtain ⟨j1, hj1⟩ : ∃ j1, j1 = jp + 1 := ⟨_, rfl⟩
            rw [← hj1] at cx2 fx2 e0
            have J1 := hid hj1
            clear hj1
            go_big_region
            all_goals go_wp2
            obtain rfl : j1 = jp + 1 := J1.out
            refine ⟨⟨jp, (L2.set (jp + 1) y).set jp x, (cu2.setIfInBounds (jp + 1) (.int .i64 y)).setIfInBounds jp (.int .i64 x), rfl, by omega, ?_, ?_, HI3, ?_, ?_, ?_⟩, by simp [intOf]⟩
            · show _ = _
              rw [List.length_set, List.length_set]; exact HL.out
            · show _ = _
              rw [Array.size_setIfInBounds, Array.size_setIfInBounds]; exact HZ.out
            · exact (HO2.out.set (jp + 1) (.int .i64 y)).set jp (.int .i64 x)
            · exact (HC.out.set (jp + 1) y).set jp x
            · exact (HB2.out.trans (((Kept.set (B := g) w3 ⟨g, jp + 1, none⟩ (.int .i64 y)).trans (Kept.set (B := g) _ ⟨g, jp, none⟩ (.int .i64 x))).below (Nat.le_refl _))).trans (below_drewN' 1)
          · have OUT := hid (HI.out.done TR.out (.inr ⟨x, y, Nat.succ_pos _, HX.out, HY.out, hF1.out (by omega)⟩))
            clear hT1 hF1 HI HX HY
            go_wp2_with fail
            go_quiet (first | (go_at_call 50; exact Calls.quiet_of_same ((cmp_less _ _ _).mono fun e w' h => ⟨h.1, h.2.symm⟩)))
            have HO2 : Hid (ObjAt (wr.drewN nq) g 3 cu2) := HO.out
            have HB2 : Hid (Below g w (wr.drewN nq)) := HB.out.trans (below_drewN' nq)
            generalize wr.drewN nq = w3 at *
            go_wp2
            go_roundw
            case rel => exact ⟨i + 1, L2, cu2, by go_num, by omega, .inl (by omega), HL, HZ, OUT, HO2, HC, HB2⟩
            case measure => simp [intOf]; omega
    · have hend := HS.out.done (by omega) HL.out
      have HE := hid hend
      clear hend HS
      go_wp2_with fail
      go_end0
      exact ⟨rfl, L, cu, HE.out.1, HE.out.2, HO.out, HC.out, HZ.out, HB.out⟩

end Go.Proofs.Ytmhlckicjojmoaa
