/-
  slices.DeleteFunc of the events up to a number: the walks.
-/
import Derived.Test.YtjnbflhpboheiaaDoorDelE
namespace Go.Proofs.YtjnbflhpboheiaaDoor
open Go.RowKit
set_option maxRecDepth 20000
set_option linter.unusedVariables false

def upTo (n : Int) (e : Ev) : Bool := decide (e.n ≤ n)
theorem ev_cells {w : World} {a : Option Addr} {l : List Ev} (hr : RowAt w a (l.flatMap evC)) {k : Nat} (hk : k < l.length) : ∃ b o, a = some ⟨b, o, none⟩ ∧ w.cell? ⟨b, o + k * 3, none⟩ = some (.int .i64 l[k].n) ∧ w.cell? ⟨b, o + k * 3 + 1, none⟩ = some (.int .i64 l[k].kind) ∧ w.cell? ⟨b, o + k * 3 + 2, none⟩ = some (tkey l[k].path) := by
  obtain ⟨b, o, rfl, h⟩ := flat_row evC_len (by decide) hr hk
  exact ⟨b, o, rfl, h 0 _ rfl, h 1 _ rfl, h 2 _ rfl⟩

set_option maxHeartbeats 2000000 in
theorem ack_index (n : Int) (nb : Nat) (a : Option Addr) (c : Nat) (l : List Ev) (w : World) (hr : RowAt w a (l.flatMap evC)) (hm : l.length ≤ 1073741824) (hn : w.cell? ⟨nb, 0, none⟩ = some (.int .i64 n)) :
    Calls Tryd.prog 43 #[.slice a l.length c, .func (.func 36) #[] #[.pointer (some ⟨nb, 0, none⟩)]] w fun e w' => e = .returned (.int .i64 (idxE (upTo n) l)) ∧ Below w.heap.size w w' := by
  have HR := hid hr
  have HN := hid hn
  clear hr hn
  go_enter Tryd.func43, Tryd.ntmps43
  go_wp2_with fail
  go_loopw [8] (fun i wr => ∃ k : Nat, i = .int .i64 k ∧ k ≤ l.length ∧ Hid (∀ (j : Nat) (hj : j < l.length), j < k → upTo n l[j] = false) ∧ Hid (Below w.heap.size w wr)) (fun i _ => l.length - (intOf i).toNat)
  case atStart => exact ⟨0, rfl, Nat.zero_le _, fun j _ h => absurd h (Nat.not_lt_zero _), Below.refl _ _⟩
  case round =>
    obtain ⟨k, rfl, hk, HT, HB⟩ := hrel
    by_cases hlt : k < l.length
    · obtain ⟨b, o, rfl, c0, c1, c2⟩ := ev_cells (HR.out.below HB.out) hlt
      have hcall := ack_fn l[k] n nb wr (HB.out.cell (p := ⟨nb, 0, none⟩) (lt_of_cell HN.out) ▸ HN.out)
      have H1 := hid (fun e : upTo n l[k] = true => idxE_at hlt e HT.out)
      have H2 : Hid (upTo n l[k] = false → ∀ (j : Nat) (hj : j < l.length), j < k + 1 → upTo n l[j] = false) := fun h j hj hjk => by
        rcases Nat.lt_or_ge j k with g | g
        · exact HT.out j hj g
        · obtain rfl : j = k := by omega
          exact h
      clear HR HT
      have HX : Hid (upTo n l[k] = decide (l[k].n ≤ n)) := rfl
      generalize l[k] = x at *
      obtain ⟨xn, xk, xp⟩ := x
      rw [show decide ((⟨xn, xk, xp⟩ : Ev).n ≤ n) = upTo n ⟨xn, xk, xp⟩ from rfl] at hcall
      change wr.cell? ⟨b, o + k * 3, none⟩ = some (.int .i64 xn) at c0
      change wr.cell? ⟨b, o + k * 3 + 1, none⟩ = some (.int .i64 xk) at c1
      change wr.cell? ⟨b, o + k * 3 + 2, none⟩ = some (tkey xp) at c2
      clear HX
      cases hx : upTo n ⟨xn, xk, xp⟩ with
      | true =>
        rw [hx] at hcall
        have HX := hid (H1.out hx)
        clear hx H1 H2
        go_wp2_with fail
        refine hcall.mono ?_
        rintro e w' ⟨rfl, hb⟩
        have HB2 := hid (below_next HB.out hb)
        clear hb hcall c0 c1 c2
        go_wp2_with fail
        go_ret
        exact ⟨by rw [HX.out]; rfl, HB2.out⟩
      | false =>
        rw [hx] at hcall
        have HX := hid (H2.out hx)
        clear hx H1 H2
        go_wp2_with fail
        refine hcall.mono ?_
        rintro e w' ⟨rfl, hb⟩
        have HB2 := hid (below_next HB.out hb)
        clear hb hcall c0 c1 c2
        go_wp2_with fail
        go_roundw
        case rel => exact ⟨k + 1, by go_num, by omega, HX, HB2⟩
        case measure => simp [intOf]; omega
    · obtain rfl : k = l.length := by omega
      go_wp2_with fail
      go_ret
      exact ⟨by rw [idxE_none (fun j hj => HT.out j hj hj)]; rfl, HB.out⟩

theorem kept_sets {S : Nat → Prop} {b : Nat} (hb : S b) : ∀ (vs : List Value) (o : Nat) (w : World), KeptS S w (w.setCells b o vs)
  | [], _, w => KeptS.refl _ _
  | v :: vs, o, w => (KeptS.set w ⟨b, o, none⟩ v hb).next (kept_sets hb vs (o + 1) _)
theorem obj_sets {b : Nat} {t : TypeId} : ∀ (vs : List Value) (o : Nat) (w : World) (cs : Array Value), ObjAt w b t cs → ∃ cs', ObjAt (w.setCells b o vs) b t cs' ∧ cs'.size = cs.size ∧ ∀ m, m < o → cs'[m]? = cs[m]?
  | [], _, w, cs, h => ⟨cs, h, rfl, fun _ _ => rfl⟩
  | v :: vs, o, w, cs, h => by
    obtain ⟨cs', h1, h2, h3⟩ := obj_sets vs (o + 1) _ _ (h.set o v)
    exact ⟨cs', h1, by rw [h2]; simp, fun m hm => by rw [h3 m (by omega), Array.getElem?_setIfInBounds_ne (by omega)]⟩

theorem own_open {w : World} {base : Nat} {e : TypeId} {size n : Nat} {v : Value} {xs : List Value} (h : w.ownsRow base e size v n xs) (hn : 0 < n) : ∃ g cap cur, v = .slice (some ⟨g, 0, none⟩) n cap ∧ ObjAt w g e cur ∧ n ≤ cap ∧ cap ≤ maxLen ∧ cur.size = cap * size ∧ ∀ m, m < n * size → cur[m]? = xs[m]? := by
  obtain ⟨h1, h2⟩ := h
  rcases h2 with ⟨-, e⟩ | ⟨g, cap, cur, rfl, -, ho, hc1, hc2, hs, hx⟩
  · omega
  · refine ⟨g, cap, cur, rfl, ho, hc1, hc2, hs, fun m hm => ?_⟩
    rw [← hx, List.getElem?_take_of_lt hm, Array.getElem?_toList]
theorem own_close {w : World} {e : TypeId} {size n g cap : Nat} {cur : Array Value} {xs : List Value} (ho : ObjAt w g e cur) (h1 : n ≤ cap) (h2 : cap ≤ maxLen) (hs : cur.size = cap * size) (hl : xs.length = n * size) (hx : ∀ m, m < n * size → cur[m]? = xs[m]?) : w.ownsRow 0 e size (.slice (some ⟨g, 0, none⟩) n cap) n xs := by
  refine ⟨hl, .inr ⟨g, cap, cur, rfl, Nat.zero_le _, ho, h1, h2, hs, ?_⟩⟩
  refine List.ext_getElem? fun m => ?_
  by_cases hm : m < n * size
  · rw [List.getElem?_take_of_lt hm, Array.getElem?_toList]; exact hx m hm
  · rw [List.getElem?_eq_none (by simp; omega), List.getElem?_eq_none (by omega)]

set_option maxHeartbeats 4000000 in
theorem ack_delete (n : Int) (nb : Nat) (va : Value) (l : List Ev) (w : World) (ho : w.ownsRow 0 38 3 va l.length (l.flatMap evC)) (hm : l.length ≤ 1073741824) (hn : w.cell? ⟨nb, 0, none⟩ = some (.int .i64 n)) (hnb : va.ownBlock ≠ some nb) :
    Calls Tryd.prog 35 #[va, .func (.func 36) #[] #[.pointer (some ⟨nb, 0, none⟩)]] w fun e w' => ∃ v, e = .returned v ∧ w'.ownsRow 0 38 3 v (l.filter fun x => !upTo n x).length ((l.filter fun x => !upTo n x).flatMap evC) ∧ KeptS (fun k => va.ownBlock = some k) w w' ∧ v.ownBlock = va.ownBlock := by
  have HOW := hid ho
  have HN := hid hn
  obtain ⟨a, c, rfl, hr, -⟩ := own_addr ho
  have hidx := ack_index n nb a c l w hr hm hn
  have HIDX := hid hidx
  clear hr hn ho hidx
  go_enter Tryd.func35, Tryd.ntmps35
  go_wp2_with fail
  refine HIDX.out.mono ?_
  rintro e w1 ⟨rfl, hb1⟩
  clear HIDX
  have HB1 := hid hb1
  clear hb1
  rcases idxE_cases (upTo n) l with ⟨h1, h2⟩ | ⟨k, hk, h1, h2, h3⟩
  · rw [h1]
    have HF : Hid ((l.filter fun x => !upTo n x) = l) := List.filter_eq_self.2 (fun x hx => by rw [h2 x hx]; rfl)
    clear h1 h2
    go_wp2_with fail
    go_ret
    rw [HF.out]
    exact ⟨_, rfl, owns_below HOW.out HB1.out, KeptS.of_below HB1.out, rfl⟩
  · rw [h1]
    obtain ⟨g, cap, cur, e, hgo, hc1, hc2, hsz, hcs⟩ := own_open HOW.out (by omega)
    simp only [Value.slice.injEq, true_and] at e
    obtain ⟨rfl, rfl⟩ := e
    have hI : DelE (upTo n) l k (k + 1) cur := DelE.start hk h2 h3 (by rw [hsz]; omega) (fun m hm t ht => by rw [hcs _ (by omega), flat_cell evC 3 evC_len l m t hm ht])
    have HI := hid hI
    have HO := hid (hgo.below HB1.out)
    have HK := hid (KeptS.of_below (S := fun k => k = g) HB1.out)
    have HNB : Hid (nb ≠ g) := fun e => hnb (by rw [e]; rfl)
    have HSZ := hid hsz
    have e1 : ((k : Int) == -1) = false := beq_eq_false_iff_ne.2 (by omega)
    clear h1 h2 h3 hI hgo hnb hcs HOW HB1 hsz
    go_wp2_with fail
    clear e1
    go_loopw [5, 6] (fun s5 s6 wr => ∃ (i j : Nat) (cu : Array Value), s5 = .int .i64 i ∧ s6 = .int .i64 j ∧ j ≤ l.length ∧ i < j ∧ Hid (DelE (upTo n) l i j cu) ∧ Hid (ObjAt wr g 38 cu) ∧ Hid (KeptS (fun k => k = g) w wr) ∧ Hid (cu.size = c * 3)) (fun _ s6 _ => l.length - (intOf s6).toNat)
    case atStart => exact ⟨k, k + 1, cur, rfl, by go_num, by omega, by omega, HI, HO, HK, HSZ⟩
    case round =>
      clear HI HO HK HSZ
      obtain ⟨i, j, cu, rfl, rfl, hj, hij, HI, HO, HK, HSZ⟩ := hrel
      have hsz := HI.out.size
      by_cases hlt : j < l.length
      · have c0 := ObjAt.cell HO.out (j * 3) (.int .i64 l[j].n) (HI.out.high j hlt (Nat.le_refl _) 0 (by decide))
        have c1 := ObjAt.cell HO.out (j * 3 + 1) (.int .i64 l[j].kind) (HI.out.high j hlt (Nat.le_refl _) 1 (by decide))
        have c2 := ObjAt.cell HO.out (j * 3 + 2) (tkey l[j].path) (HI.out.high j hlt (Nat.le_refl _) 2 (by decide))
        have H1 := hid (fun e : upTo n l[j] = true => HI.out.drop hlt e)
        have H2 := hid (fun e : upTo n l[j] = false => HI.out.keep hlt e)
        have hnw : wr.cell? ⟨nb, 0, none⟩ = some (.int .i64 n) := HK.out.cell HN.out HNB.out
        have HEB := hid (ObjAt.new wr 38 #[.int .i64 l[j].n, .int .i64 l[j].kind, tkey l[j].path])
        have HBB := hid (below_new (w := wr) (.cells #[.int .i64 l[j].n, .int .i64 l[j].kind, tkey l[j].path] 38))
        have hcall := ack_fn l[j] n nb (wr.alloc (.cells #[.int .i64 l[j].n, .int .i64 l[j].kind, tkey l[j].path] 38)) ((HBB.out.cell (p := ⟨nb, 0, none⟩) (lt_of_cell hnw)).trans hnw)
        generalize l[j] = x at *
        obtain ⟨xn, xk, xp⟩ := x
        rw [show decide ((⟨xn, xk, xp⟩ : Ev).n ≤ n) = upTo n ⟨xn, xk, xp⟩ from rfl] at hcall
        simp only at c0 c1 c2 HEB HBB hcall
        cases hx : upTo n ⟨xn, xk, xp⟩ with
        | true =>
          rw [hx] at hcall
          have HX := hid (H1.out hx)
          clear hx H1 H2 HI hnw HEB
          go_wp2_with fail
          refine hcall.mono ?_
          rintro e w' ⟨rfl, hb⟩
          have HB2 := hid (below_next HBB.out hb)
          have HO2 := hid (HO.out.below HB2.out)
          have HK2 := hid (HK.out.next (KeptS.of_below HB2.out))
          clear hb hcall c0 c1 c2 HO HK HBB
          go_wp2_with fail
          go_roundw
          case rel => exact ⟨i, j + 1, cu, rfl, by go_num, by omega, by omega, HX, HO2, HK2, HSZ⟩
          case measure => simp [intOf]; omega
        | false =>
          rw [hx] at hcall
          have HX := hid (H2.out hx)
          clear hx H1 H2 HI hnw
          go_wp2_with fail
          refine hcall.mono ?_
          rintro e w' ⟨rfl, hb⟩
          have HB2 := hid (below_next HBB.out hb)
          have HO2 := hid (HO.out.below HB2.out)
          have HK2 := hid (HK.out.next (KeptS.of_below HB2.out))
          have HE2 := hid (HEB.out.below hb)
          change Hid (ObjAt w' wr.heap.size 38 #[.int .i64 xn, .int .i64 xk, tkey xp]) at HE2
          clear hb hcall c0 c1 c2 HO HK HBB HEB
          generalize wr.heap.size = vb at *
          have x0 := HE2.out.cell 0 (.int .i64 xn) rfl
          have x1 := HE2.out.cell 1 (.int .i64 xk) rfl
          have x2 := HE2.out.cell 2 (tkey xp) rfl
          have d0 := HO2.out.cell (i * 3) cu[i * 3] (by rw [Array.getElem?_eq_getElem (by omega)])
          have d1 := HO2.out.cell (i * 3 + 1) cu[i * 3 + 1] (by rw [Array.getElem?_eq_getElem (by omega)])
          have d2 := HO2.out.cell (i * 3 + 2) cu[i * 3 + 2] (by rw [Array.getElem?_eq_getElem (by omega)])
          have f0 := HO2.out.frozen (i * 3)
          have f1 := HO2.out.frozen (i * 3 + 1)
          have f2 := HO2.out.frozen (i * 3 + 2)
          have HO3 := hid (HO2.out.setE (i * 3) ⟨xn, xk, xp⟩)
          have HK3 := hid (((HK2.out.next (KeptS.set (S := fun k => k = g) w' ⟨g, i * 3, none⟩ (.int .i64 xn) rfl)).next (KeptS.set _ ⟨g, i * 3 + 1, none⟩ (.int .i64 xk) rfl)).next (KeptS.set _ ⟨g, i * 3 + 2, none⟩ (tkey xp) rfl))
          have HS3 : Hid ((setE cu (i * 3) ⟨xn, xk, xp⟩).size = c * 3) := by show _ = _; rw [setE_size]; exact HSZ.out
          generalize cu[i * 3] = y0 at *
          generalize cu[i * 3 + 1] = y1 at *
          generalize cu[i * 3 + 2] = y2 at *
          go_wp2_with fail
          go_roundw
          case rel => exact ⟨i + 1, j + 1, _, by go_num, by go_num, by omega, by omega, HX, HO3, HK3, HS3⟩
          case measure => simp [intOf]; omega
      · obtain rfl : j = l.length := by omega
        obtain ⟨vs, hvl, hcl⟩ := run_clear_ev wr 0 g (i * 3) (l.length - i) (c - i) (by omega) (fun t ht => by rw [HO.out.cell (i * 3 + t) cu[i * 3 + t] (by rw [Array.getElem?_eq_getElem (by omega)])]; rfl) (fun t ht => HO.out.frozen (i * 3 + t))
        have hil : i = (l.filter fun x => !upTo n x).length := by
          have h1 := HI.out.cnt
          rwa [List.take_length] at h1
        have hlow := HI.out.low
        rw [List.take_length] at hlow
        obtain ⟨cs', q1, q2, q3⟩ := obj_sets vs (i * 3) wr cu HO.out
        have HEND : Hid ((wr.setCells g (i * 3) vs).ownsRow 0 38 3 (.slice (some ⟨g, 0, none⟩) i c) i ((l.filter fun x => !upTo n x).flatMap evC)) := by
          refine own_close q1 (by omega) hc2 (by rw [q2]; exact HSZ.out) (by rw [flat_len evC_len, ← hil]) (fun m hm => ?_)
          rw [q3 m hm]
          have hmd : m = m / 3 * 3 + m % 3 := by omega
          rw [hmd, hlow (m / 3) (by rw [← hil]; omega) (m % 3) (by omega), flat_cell evC 3 evC_len _ (m / 3) (m % 3) (by rw [← hil]; omega) (by omega)]
        have HK2 := hid (HK.out.next (kept_sets (S := fun k => k = g) rfl vs (i * 3) wr))
        have HIL := hid hil
        clear hlow q1 q2 q3 hil HI hvl
        go_wp2_with fail
        go_ret
        exact ⟨_, rfl, by rw [← HIL.out]; exact HEND.out, HK2.out.imp (fun k e => by rw [e]; rfl), rfl⟩
end Go.Proofs.YtjnbflhpboheiaaDoor
