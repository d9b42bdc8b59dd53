/-
  DeleteFunc with each of the two predicates.
-/
import Derived.Test.YtmhlckicjojmoaaRec7
namespace Go.Proofs.Ytmhlckicjojmoaa
open Go.RowKit
set_option maxRecDepth 20000
set_option linter.unusedVariables false

theorem below_sets {B b : Nat} (hB : B ≤ b) : ∀ (vs : List Value) (o : Nat) (w : World), Below B w (w.setCells b o vs)
  | [], _, _ => Below.refl _ _
  | v :: vs, o, w => (((Kept.set (B := B) w ⟨b, o, none⟩ v)).below hB).trans (below_sets hB vs (o + 1) _)

set_option maxHeartbeats 2000000 in
theorem del_funcO (bv : Value) (p : Int → Bool) (rb cap : Nat) (l : List Int) (w : World) (cur : Array Value) (ho : ObjAt w rb 3 cur) (hs : l.length ≤ cur.size) (hc : ∀ (m : Nat) (hm : m < l.length), cur[m]? = some (.int .i64 l[m]))
    (hm : l.length ≤ 1000) (hcap : l.length ≤ cap ∧ cap ≤ maxLen) (hp : ∀ x w', Below rb w w' → Calls Try.prog 32 #[.int .i64 x, bv] w' fun e w'' => e = .returned (.bool (p x)) ∧ w' = w'') :
    Calls Try.prog 31 #[.slice (some ⟨rb, 0, none⟩) l.length cap, .func (.func 32) #[] #[bv]] w fun e w' => ∃ v, e = .returned v ∧ IsInts w' v (l.filter fun x => !p x) ∧ Below rb w w' := by
  have HO := hid ho
  have HC := hid hc
  have HS := hid hs
  have HP := hid hp
  have hrow : RowAt w (some ⟨rb, 0, none⟩) (l.map (Value.int .i64)) := fun j v hv => by
    obtain ⟨hj, e⟩ := List.getElem?_eq_some_iff.1 hv
    simp only [List.length_map] at hj
    simp only [List.getElem_map] at e
    exact ⟨rb, 0, rfl, by rw [Nat.zero_add]; exact ho.cell j v (by rw [hc j hj, e])⟩
  have hidx := index_funcO bv p (some ⟨rb, 0, none⟩) cap l w hrow (by omega) (fun x => hp x w (Below.refl _ _))
  obtain ⟨hcap1, hcap2⟩ := hcap
  clear ho hc hs hp hrow
  go_enter Try.func31, Try.ntmps31
  go_wp2_with fail
  refine hidx.mono ?_
  rintro e w1 ⟨rfl, rfl⟩
  clear hidx
  rcases idxP_cases p l with ⟨h1, h2⟩ | ⟨k, hk, h1, h2, h3⟩
  · rw [h1]
    have HF : Hid ((l.filter fun x => !p x) = l) := List.filter_eq_self.2 (fun x hx => by rw [h2 x hx]; rfl)
    clear h1 h2
    go_wp2_with fail
    go_ret
    refine ⟨_, rfl, ?_, Below.refl _ _⟩
    rw [HF.out]
    exact ⟨some ⟨rb, 0, none⟩, cap, rfl, fun j v hv => by
      obtain ⟨hj, e⟩ := List.getElem?_eq_some_iff.1 hv
      simp only [List.length_map] at hj
      simp only [List.getElem_map] at e
      exact ⟨rb, 0, rfl, by rw [Nat.zero_add]; exact HO.out.cell j v (by rw [HC.out j hj, e])⟩, (fun h => by cases h), hcap1, hcap2⟩
  · rw [h1]
    have HI := hid (DelInv.start hk h2 h3 HS.out HC.out)
    have e1 : ((k : Int) == -1) = false := beq_eq_false_iff_ne.2 (by omega)
    clear h1 h2 h3 HC HS
    go_wp2_with fail
    clear e1
    go_loopw [5, 6] (fun s5 s6 wr => ∃ (i j : Nat) (cu : Array Value), s5 = .int .i64 i ∧ s6 = .int .i64 j ∧ j ≤ l.length ∧ i < j ∧ Hid (DelInv p l i j cu) ∧ Hid (ObjAt wr rb 3 cu) ∧ Hid (Below rb w wr)) (fun _ s6 _ => l.length - (intOf s6).toNat)
    case atStart => exact ⟨k, k + 1, cur, rfl, by go_num, by omega, by omega, HI, HO, Below.refl _ _⟩
    case round =>
      clear HI HO
      obtain ⟨i, j, cu, rfl, rfl, hj, hij, HI, HO, HB⟩ := hrel
      have hsz := HI.out.size
      by_cases hlt : j < l.length
      · have cj := ObjAt.cell HO.out j (.int .i64 l[j]) (HI.out.high j hlt (Nat.le_refl _))
        have ci := ObjAt.cell HO.out i cu[i] (by rw [Array.getElem?_eq_getElem (by omega)])
        have fi := ObjAt.frozen HO.out i
        have H1 := hid (fun e : p l[j] = true => HI.out.drop hlt e)
        have H2 := hid (fun e : p l[j] = false => HI.out.keep hlt e)
        generalize cu[i] = old at *
        generalize l[j] = x at *
        have hcall := HP.out x wr HB.out
        cases hx : p x with
        | true =>
          rw [hx] at hcall
          have HX := hid (H1.out hx)
          clear hx H1 H2 HI HP
          go_wp2_with fail
          refine hcall.mono ?_
          rintro e w' ⟨rfl, rfl⟩
          go_wp2_with fail
          go_roundw
          case rel => exact ⟨i, j + 1, cu, rfl, by go_num, by omega, by omega, HX, HO, HB⟩
          case measure => simp [intOf]; omega
        | false =>
          rw [hx] at hcall
          have HX := hid (H2.out hx)
          have HO2 := hid (ObjAt.set HO.out i (.int .i64 x))
          have HB2 := hid (HB.out.trans ((Kept.set (B := rb) wr ⟨rb, i, none⟩ (.int .i64 x)).below (Nat.le_refl _)))
          clear hx H1 H2 HI HP
          go_wp2_with fail
          refine hcall.mono ?_
          rintro e w' ⟨rfl, rfl⟩
          go_wp2_with fail
          go_roundw
          case rel => exact ⟨i + 1, j + 1, _, by go_num, by go_num, by omega, by omega, HX, HO2, HB2⟩
          case measure => simp [intOf]; omega
      · obtain rfl : j = l.length := by omega
        have hcl : ∀ ty, (Builtin.clear_ #[22] ty #[.slice (some ⟨rb, i, none⟩) (l.length - i) (cap - i)]).run Try.prog wr = .ok (.tuple #[]) (wr.setCells rb i (List.replicate (l.length - i) (.int .i64 0))) :=
          fun ty => Lib.run_clear_slice wr _ _ ty _ Try.underlying22 (fun w => by kernel_rfl) rfl rfl rb i _ _ (by omega) (fun t ht => by rw [HO.out.cell (i + t) cu[i + t] (by rw [Array.getElem?_eq_getElem (by omega)])]; rfl) (fun t ht => HO.out.frozen (i + t))
        have HCUT : Hid (i = (l.filter fun x => !p x).length ∧ ∀ (m : Nat), m < i → cu[m]? = ((l.filter fun x => !p x)[m]?).map (Value.int .i64)) := by
          have h1 := HI.out.cnt
          have h2 := HI.out.low
          rw [List.take_length] at h1 h2
          exact ⟨h1, h2⟩
        clear HP HI
        go_wp2_with fail
        go_ret
        refine ⟨_, rfl, ⟨some ⟨rb, 0, none⟩, cap, by rw [← HCUT.out.1]; rfl, fun j v hv => ?_, (fun h => by cases h), by rw [← HCUT.out.1]; omega, hcap2⟩, HB.out.trans (below_sets (Nat.le_refl _) _ _ _)⟩
        obtain ⟨hjl, e⟩ := List.getElem?_eq_some_iff.1 hv
        simp only [List.length_map] at hjl
        refine ⟨rb, 0, rfl, ?_⟩
        rw [Nat.zero_add, World.cell?_setCells_out rb _ _ _ _ (fun _ _ => .inl (by show j < i; rw [HCUT.out.1]; exact hjl))]
        refine HO.out.cell j v ?_
        rw [HCUT.out.2 j (by rw [HCUT.out.1]; exact hjl), ← List.getElem?_map, hv]

set_option maxHeartbeats 2000000 in
theorem del_funcS (bv : Value) (p : Int → Bool) (rb cap : Nat) (l : List Int) (w : World) (cur : Array Value) (ho : ObjAt w rb 3 cur) (hs : l.length ≤ cur.size) (hc : ∀ (m : Nat) (hm : m < l.length), cur[m]? = some (.int .i64 l[m]))
    (hm : l.length ≤ 1000) (hcap : l.length ≤ cap ∧ cap ≤ maxLen) (hp : ∀ x w', Below rb w w' → Calls Try.prog 33 #[.int .i64 x, bv] w' fun e w'' => e = .returned (.bool (p x)) ∧ w' = w'') :
    Calls Try.prog 31 #[.slice (some ⟨rb, 0, none⟩) l.length cap, .func (.func 33) #[] #[bv]] w fun e w' => ∃ v, e = .returned v ∧ IsInts w' v (l.filter fun x => !p x) ∧ Below rb w w' := by
  have HO := hid ho
  have HC := hid hc
  have HS := hid hs
  have HP := hid hp
  have hrow : RowAt w (some ⟨rb, 0, none⟩) (l.map (Value.int .i64)) := fun j v hv => by
    obtain ⟨hj, e⟩ := List.getElem?_eq_some_iff.1 hv
    simp only [List.length_map] at hj
    simp only [List.getElem_map] at e
    exact ⟨rb, 0, rfl, by rw [Nat.zero_add]; exact ho.cell j v (by rw [hc j hj, e])⟩
  have hidx := index_funcS bv p (some ⟨rb, 0, none⟩) cap l w hrow (by omega) (fun x => hp x w (Below.refl _ _))
  obtain ⟨hcap1, hcap2⟩ := hcap
  clear ho hc hs hp hrow
  go_enter Try.func31, Try.ntmps31
  go_wp2_with fail
  refine hidx.mono ?_
  rintro e w1 ⟨rfl, rfl⟩
  clear hidx
  rcases idxP_cases p l with ⟨h1, h2⟩ | ⟨k, hk, h1, h2, h3⟩
  · rw [h1]
    have HF : Hid ((l.filter fun x => !p x) = l) := List.filter_eq_self.2 (fun x hx => by rw [h2 x hx]; rfl)
    clear h1 h2
    go_wp2_with fail
    go_ret
    refine ⟨_, rfl, ?_, Below.refl _ _⟩
    rw [HF.out]
    exact ⟨some ⟨rb, 0, none⟩, cap, rfl, fun j v hv => by
      obtain ⟨hj, e⟩ := List.getElem?_eq_some_iff.1 hv
      simp only [List.length_map] at hj
      simp only [List.getElem_map] at e
      exact ⟨rb, 0, rfl, by rw [Nat.zero_add]; exact HO.out.cell j v (by rw [HC.out j hj, e])⟩, (fun h => by cases h), hcap1, hcap2⟩
  · rw [h1]
    have HI := hid (DelInv.start hk h2 h3 HS.out HC.out)
    have e1 : ((k : Int) == -1) = false := beq_eq_false_iff_ne.2 (by omega)
    clear h1 h2 h3 HC HS
    go_wp2_with fail
    clear e1
    go_loopw [5, 6] (fun s5 s6 wr => ∃ (i j : Nat) (cu : Array Value), s5 = .int .i64 i ∧ s6 = .int .i64 j ∧ j ≤ l.length ∧ i < j ∧ Hid (DelInv p l i j cu) ∧ Hid (ObjAt wr rb 3 cu) ∧ Hid (Below rb w wr)) (fun _ s6 _ => l.length - (intOf s6).toNat)
    case atStart => exact ⟨k, k + 1, cur, rfl, by go_num, by omega, by omega, HI, HO, Below.refl _ _⟩
    case round =>
      clear HI HO
      obtain ⟨i, j, cu, rfl, rfl, hj, hij, HI, HO, HB⟩ := hrel
      have hsz := HI.out.size
      by_cases hlt : j < l.length
      · have cj := ObjAt.cell HO.out j (.int .i64 l[j]) (HI.out.high j hlt (Nat.le_refl _))
        have ci := ObjAt.cell HO.out i cu[i] (by rw [Array.getElem?_eq_getElem (by omega)])
        have fi := ObjAt.frozen HO.out i
        have H1 := hid (fun e : p l[j] = true => HI.out.drop hlt e)
        have H2 := hid (fun e : p l[j] = false => HI.out.keep hlt e)
        generalize cu[i] = old at *
        generalize l[j] = x at *
        have hcall := HP.out x wr HB.out
        cases hx : p x with
        | true =>
          rw [hx] at hcall
          have HX := hid (H1.out hx)
          clear hx H1 H2 HI HP
          go_wp2_with fail
          refine hcall.mono ?_
          rintro e w' ⟨rfl, rfl⟩
          go_wp2_with fail
          go_roundw
          case rel => exact ⟨i, j + 1, cu, rfl, by go_num, by omega, by omega, HX, HO, HB⟩
          case measure => simp [intOf]; omega
        | false =>
          rw [hx] at hcall
          have HX := hid (H2.out hx)
          have HO2 := hid (ObjAt.set HO.out i (.int .i64 x))
          have HB2 := hid (HB.out.trans ((Kept.set (B := rb) wr ⟨rb, i, none⟩ (.int .i64 x)).below (Nat.le_refl _)))
          clear hx H1 H2 HI HP
          go_wp2_with fail
          refine hcall.mono ?_
          rintro e w' ⟨rfl, rfl⟩
          go_wp2_with fail
          go_roundw
          case rel => exact ⟨i + 1, j + 1, _, by go_num, by go_num, by omega, by omega, HX, HO2, HB2⟩
          case measure => simp [intOf]; omega
      · obtain rfl : j = l.length := by omega
        have hcl : ∀ ty, (Builtin.clear_ #[22] ty #[.slice (some ⟨rb, i, none⟩) (l.length - i) (cap - i)]).run Try.prog wr = .ok (.tuple #[]) (wr.setCells rb i (List.replicate (l.length - i) (.int .i64 0))) :=
          fun ty => Lib.run_clear_slice wr _ _ ty _ Try.underlying22 (fun w => by kernel_rfl) rfl rfl rb i _ _ (by omega) (fun t ht => by rw [HO.out.cell (i + t) cu[i + t] (by rw [Array.getElem?_eq_getElem (by omega)])]; rfl) (fun t ht => HO.out.frozen (i + t))
        have HCUT : Hid (i = (l.filter fun x => !p x).length ∧ ∀ (m : Nat), m < i → cu[m]? = ((l.filter fun x => !p x)[m]?).map (Value.int .i64)) := by
          have h1 := HI.out.cnt
          have h2 := HI.out.low
          rw [List.take_length] at h1 h2
          exact ⟨h1, h2⟩
        clear HP HI
        go_wp2_with fail
        go_ret
        refine ⟨_, rfl, ⟨some ⟨rb, 0, none⟩, cap, by rw [← HCUT.out.1]; rfl, fun j v hv => ?_, (fun h => by cases h), by rw [← HCUT.out.1]; omega, hcap2⟩, HB.out.trans (below_sets (Nat.le_refl _) _ _ _)⟩
        obtain ⟨hjl, e⟩ := List.getElem?_eq_some_iff.1 hv
        simp only [List.length_map] at hjl
        refine ⟨rb, 0, rfl, ?_⟩
        rw [Nat.zero_add, World.cell?_setCells_out rb _ _ _ _ (fun _ _ => .inl (by show j < i; rw [HCUT.out.1]; exact hjl))]
        refine HO.out.cell j v ?_
        rw [HCUT.out.2 j (by rw [HCUT.out.1]; exact hjl), ← List.getElem?_map, hv]
end Go.Proofs.Ytmhlckicjojmoaa
