/-
  Fire: a walk.
-/
import Derived.Test.YtjnbflhpboheiaaDoorWt4
import Derived.Test.YtjnbflhpboheiaaDoorWtP
import Derived.Test.YtjnbflhpboheiaaDoorFlat
namespace Go.Proofs.YtjnbflhpboheiaaDoor
open Go.RowKit Go.ChangeMaps
set_option maxRecDepth 20000
set_option linter.unusedVariables false

structure FirAt (w : World) (hb mh : Nat) (D : List Dk) (fs : List Fr) (wr : World) (Dc : List Dk) (z : Nat) : Prop where
  hub : HubT wr hb mh Dc
  abs : absD Dc = runF fs (absD D)
  mov : MovedH w wr hb mh D Dc
  cnt : z = cntF fs (absD D)
theorem FirAt.below {w : World} {hb mh : Nat} {D : List Dk} {fs : List Fr} {wr wr' : World} {Dc : List Dk} {z : Nat} (h : FirAt w hb mh D fs wr Dc z) (hb' : Below wr.heap.size wr wr') : FirAt w hb mh D fs wr' Dc z :=
  ⟨h.hub.below hb', h.abs, h.mov.trans (MovedH.below hb'), h.cnt⟩
theorem FirAt.next {w : World} {hb mh : Nat} {D : List Dk} {fs : List Fr} {wr wr' : World} {Dc D' : List Dk} {z : Nat} {m : List UInt8 × Int} {kind : Int} (h : FirAt w hb mh D fs wr Dc z) (h1 : HubT wr' hb mh D') (h2 : absD D' = (absD Dc).map (fireA m kind)) (h3 : MovedH wr wr' hb mh Dc D') : FirAt w hb mh D (fs ++ [(m, kind)]) wr' D' (z + hits m (absD Dc)) := by
  refine ⟨h1, ?_, h.mov.trans h3, ?_⟩
  · rw [runF_app, ← h.abs, h2]; rfl
  · rw [cntF_app, ← h.cnt, ← h.abs]; rfl
theorem FirAt.ok {w : World} {hb mh : Nat} {D : List Dk} {fs : List Fr} {wr : World} {Dc : List Dk} {z : Nat} {N : Int} (h : FirAt w hb mh D fs wr Dc z) (ho : ∀ a ∈ absD D, a.Ok N) (hN : N ≤ 2305843009213693952) : ∀ a ∈ absD Dc, 0 ≤ a.last ∧ a.last ≤ 4611686018427387904 ∧ a.ev.length ≤ 1073741824 := fun a ha => by
  rw [h.abs] at ha
  have := ok_run fs ho a ha
  have h1 := this.lo
  have h2 := this.hi
  have h3 := this.few
  omega
theorem FirAt.len {w : World} {hb mh : Nat} {D : List Dk} {fs : List Fr} {wr : World} {Dc : List Dk} {z : Nat} (h : FirAt w hb mh D fs wr Dc z) (hn : D.length ≤ 1125899906842624) : Dc.length ≤ 4611686018427387904 := by
  have := congrArg List.length h.abs
  rw [runF_length] at this
  unfold absD at this
  rw [List.length_map, List.length_map] at this
  omega
theorem FirAt.small {w : World} {hb mh : Nat} {D : List Dk} {fs : List Fr} {wr : World} {Dc : List Dk} {z : Nat} {N : Int} (h : FirAt w hb mh D fs wr Dc z) (ho : ∀ a ∈ absD D, a.Ok N) (hn : D.length ≤ 1125899906842624) : z ≤ 36028797018963968 := by
  have h1 := cntF_le fs (absD D)
  have h2 := msum_le ho
  unfold absD at h1 h2
  rw [List.length_map] at h2
  rw [h.cnt]
  unfold absD
  omega
theorem fires_none {e : Ef} (h : parentP e.path = none) : fires e = [] := by unfold fires; rw [h]
theorem fires_out {e : Ef} {up : List UInt8} (h : parentP e.path = some up) (hk : e.kind < 1 ∨ 3 < e.kind) : fires e = [] := by
  unfold fires; rw [h]; exact if_pos hk
theorem fires_1 {e : Ef} {up : List UInt8} (h : parentP e.path = some up) (hk : e.kind = 1) : fires e = [((e.path, 1), 1), ((up, 2), 4)] := by
  unfold fires; rw [h]; simp [hk]
theorem fires_2 {e : Ef} {up : List UInt8} (h : parentP e.path = some up) (hk : e.kind = 2) : fires e = [((e.path, 1), 2), ((up, 2), 4), ((e.path, 2), 4)] := by
  unfold fires; rw [h]; simp [hk]
theorem fires_3 {e : Ef} {up : List UInt8} (h : parentP e.path = some up) (hk : e.kind = 3) : fires e = [((e.path, 1), 3)] := by
  unfold fires; rw [h]; simp [hk]
theorem HubT.off {w : World} {hb mh : Nat} {D : List Dk} (h : HubT w hb mh D) {k : Nat} {t : TypeId} {cs : Array Value} (ho : ObjAt w k t cs) (n1 : 55 ≠ t) (n2 : 67 ≠ t) (n3 : 38 ≠ t) : ¬ HubHas hb mh D k := by
  rintro (e | e | ⟨d, hd, e | e | e⟩)
  · exact h.hub.ne_obj ho n1 e.symm
  · exact ho.ne_map h.map e
  · exact (h.ds d hd).obj.ne_obj ho n2 e.symm
  · exact ho.ne_map (h.ds d hd).marks e
  · obtain ⟨cur, hc⟩ := own_obj (h.ds d hd).row e
    exact hc.ne_obj ho n3 rfl
theorem efC_len (e : Ef) : (efC e).length = 2 := rfl

set_option maxHeartbeats 4000000 in
theorem hub_Fire (hb mh : Nat) (D : List Dk) (a : Option Addr) (c : Nat) (es : List Ef) (N : Int) (w : World) (h : HubT w hb mh D) (ho : ∀ a ∈ absD D, a.Ok N) (hN : N ≤ 2305843009213693952) (hn : D.length ≤ 1125899906842624) (hr : RowAt w a (es.flatMap efC)) (hoff : ∀ ad, a = some ad → ad.block < w.heap.size → ¬ HubHas hb mh D ad.block) (hl : es.length ≤ 1152921504606846976) :
    Calls Tryd.prog 11 #[.pointer (some ⟨hb, 0, none⟩), .slice a es.length c] w fun e w' => e = .returned (.int .i64 (cntF (es.flatMap fires) (absD D) : Nat)) ∧ ∃ D', HubT w' hb mh D' ∧ absD D' = runF (es.flatMap fires) (absD D) ∧ MovedH w w' hb mh D D' := by
  have HH := hid h
  have HOK := hid ho
  have HR := hid hr
  have HOFF := hid hoff
  clear h ho hr hoff
  go_enter Tryd.func11, Tryd.ntmps11
  go_wp2_with fail
  go_loopw [5, 12] (fun n i wr => ∃ (k z : Nat) (Dc : List Dk), n = .int .i64 z ∧ i = .int .i64 k ∧ k ≤ es.length ∧ Hid (FirAt w hb mh D ((es.take k).flatMap fires) wr Dc z)) (fun _ i _ => es.length - (intOf i).toNat)
  case atStart => exact ⟨0, 0, D, rfl, rfl, Nat.zero_le _, HH.out, rfl, MovedH.refl _ _ _ _, rfl⟩
  case round =>
    obtain ⟨k, z, Dc, rfl, rfl, hk, HF⟩ := hrel
    by_cases hlt : k < es.length
    · obtain ⟨b, o, rfl, hcs⟩ := flat_row efC_len (by decide) (HR.out.keptL HF.out.mov.2 HOFF.out) hlt
      have HT : Hid ((es.take (k + 1)).flatMap fires = (es.take k).flatMap fires ++ fires es[k]) := by
        show _ = _
        rw [List.take_succ_eq_append_getElem hlt, List.flatMap_append]; simp
      have e0 : wr.cell? ⟨b, o + k * 2, none⟩ = some (.int .i64 es[k].kind) := hcs 0 _ rfl
      have e1 : wr.cell? ⟨b, o + k * 2 + 1, none⟩ = some (tkey es[k].path) := hcs 1 _ rfl
      clear hcs
      generalize es[k] = e at *
      obtain ⟨ek, p⟩ := e
      change wr.cell? ⟨b, o + k * 2, none⟩ = some (.int .i64 ek) at e0
      change wr.cell? ⟨b, o + k * 2 + 1, none⟩ = some (tkey p) at e1
      generalize (es.take k).flatMap fires = fs at *
      go_wp2_with fail
      refine (path_parent ⟨p.toArray⟩ _).mono ?_
      rintro e2 W0 ⟨rfl, hb0⟩
      have HF0 := hid ((HF.out.below (below_new (.cells #[.int .i64 ek, tkey p] 33))).below hb0)
      have HE0 := hid ((ObjAt.new wr 33 #[.int .i64 ek, tkey p]).below hb0)
      have hz0 := HF0.out.small HOK.out hn
      change Hid (ObjAt W0 wr.heap.size 33 #[.int .i64 ek, tkey p]) at HE0
      clear hb0 e0 e1 HF HR HOFF
      generalize wr.heap.size = kb at *
      generalize hDc : Dc = D0 at *
      clear hDc
      cases hp : parentP p with
      | none =>
        have q1 : errP (none : Option (List UInt8)) = 20 := rfl
        have q2 : txt ((none : Option (List UInt8)).getD []) = tkey [] := rfl
        rw [q1, q2]
        have HP := hid hp
        clear hp q1 q2
        have HF9 : Hid (FirAt w hb mh D ((es.take (k + 1)).flatMap fires) W0 D0 (z)) := by
          have h := HF0.out
          rw [HT.out, fires_none HP.out]
          exact hid (by simpa only [List.append_assoc, List.append_nil, List.cons_append, List.nil_append] using h)
        clear HT
        go_wp2_with fail
        go_roundw
        case rel => exact ⟨k + 1, z, D0, by go_num, by go_num, by omega, HF9⟩
        case measure => simp [intOf]; omega
      | some up =>
        have q1 : errP (some up) = 0 := rfl
        have q2 : txt ((some up).getD []) = tkey up := rfl
        rw [q1, q2]
        have HP := hid hp
        clear hp q1 q2
        rcases (by omega : ek < 1 ∨ 3 < ek ∨ ek = 1 ∨ ek = 2 ∨ ek = 3) with hlo | hhi | rfl | rfl | rfl
        · have HF9 : Hid (FirAt w hb mh D ((es.take (k + 1)).flatMap fires) W0 D0 (z)) := by
            have h := HF0.out
            rw [HT.out, fires_out HP.out (.inl hlo)]
            exact hid (by simpa only [List.append_assoc, List.append_nil, List.cons_append, List.nil_append] using h)
          clear HT
          have x0 := HE0.out.cell 0 (.int .i64 ek) rfl
          have x1 := HE0.out.cell 1 (tkey p) rfl
          go_wp2_with fail
          go_roundw
          case rel => exact ⟨k + 1, z, D0, by go_num, by go_num, by omega, HF9⟩
          case measure => simp [intOf]; omega
        · have HF9 : Hid (FirAt w hb mh D ((es.take (k + 1)).flatMap fires) W0 D0 (z)) := by
            have h := HF0.out
            rw [HT.out, fires_out HP.out (.inr hhi)]
            exact hid (by simpa only [List.append_assoc, List.append_nil, List.cons_append, List.nil_append] using h)
          clear HT
          have x0 := HE0.out.cell 0 (.int .i64 ek) rfl
          have x1 := HE0.out.cell 1 (tkey p) rfl
          go_wp2_with fail
          go_roundw
          case rel => exact ⟨k + 1, z, D0, by go_num, by go_num, by omega, HF9⟩
          case measure => simp [intOf]; omega
        · have x0 := HE0.out.cell 0 (.int .i64 1) rfl
          have x1 := HE0.out.cell 1 (tkey p) rfl
          have HOF0 := hid (HF0.out.hub.off HE0.out (by decide) (by decide) (by decide))
          go_wp2_with fail
          refine (hub_fire hb mh D0 (p, 1) 1 W0 HF0.out.hub (HF0.out.ok HOK.out hN) (HF0.out.len hn)).mono ?_
          rintro e3 W1 ⟨rfl, D1, q1, q2, q3⟩
          have HF1 := hid (HF0.out.next q1 q2 q3)
          have HE1 := hid (HE0.out.keptS q3.2 HOF0.out)
          have hz1 := HF1.out.small HOK.out hn
          clear q1 q2 q3 x0 x1 HE0 HOF0 HF0
          generalize hits (p, 1) (absD D0) = n0 at *
          have x0 := HE1.out.cell 0 (.int .i64 1) rfl
          have x1 := HE1.out.cell 1 (tkey p) rfl
          have HOF1 := hid (HF1.out.hub.off HE1.out (by decide) (by decide) (by decide))
          go_wp2_with fail
          refine (hub_fire hb mh D1 (up, 2) 4 W1 HF1.out.hub (HF1.out.ok HOK.out hN) (HF1.out.len hn)).mono ?_
          rintro e3 W2 ⟨rfl, D2, q1, q2, q3⟩
          have HF2 := hid (HF1.out.next q1 q2 q3)
          have HE2 := hid (HE1.out.keptS q3.2 HOF1.out)
          have hz2 := HF2.out.small HOK.out hn
          clear q1 q2 q3 x0 x1 HE1 HOF1 HF1
          generalize hits (up, 2) (absD D1) = n1 at *
          have HF9 : Hid (FirAt w hb mh D ((es.take (k + 1)).flatMap fires) W2 D2 (z + n0 + n1)) := by
            have h := HF2.out
            rw [HT.out, fires_1 HP.out rfl]
            exact hid (by simpa only [List.append_assoc, List.append_nil, List.cons_append, List.nil_append] using h)
          clear HT
          have x0 := HE2.out.cell 0 (.int .i64 1) rfl
          have x1 := HE2.out.cell 1 (tkey p) rfl
          go_wp2_with fail
          go_roundw
          case rel => exact ⟨k + 1, z + n0 + n1, D2, by go_num, by go_num, by omega, HF9⟩
          case measure => simp [intOf]; omega
        · have x0 := HE0.out.cell 0 (.int .i64 2) rfl
          have x1 := HE0.out.cell 1 (tkey p) rfl
          have HOF0 := hid (HF0.out.hub.off HE0.out (by decide) (by decide) (by decide))
          go_wp2_with fail
          refine (hub_fire hb mh D0 (p, 1) 2 W0 HF0.out.hub (HF0.out.ok HOK.out hN) (HF0.out.len hn)).mono ?_
          rintro e3 W1 ⟨rfl, D1, q1, q2, q3⟩
          have HF1 := hid (HF0.out.next q1 q2 q3)
          have HE1 := hid (HE0.out.keptS q3.2 HOF0.out)
          have hz1 := HF1.out.small HOK.out hn
          clear q1 q2 q3 x0 x1 HE0 HOF0 HF0
          generalize hits (p, 1) (absD D0) = n0 at *
          have x0 := HE1.out.cell 0 (.int .i64 2) rfl
          have x1 := HE1.out.cell 1 (tkey p) rfl
          have HOF1 := hid (HF1.out.hub.off HE1.out (by decide) (by decide) (by decide))
          go_wp2_with fail
          refine (hub_fire hb mh D1 (up, 2) 4 W1 HF1.out.hub (HF1.out.ok HOK.out hN) (HF1.out.len hn)).mono ?_
          rintro e3 W2 ⟨rfl, D2, q1, q2, q3⟩
          have HF2 := hid (HF1.out.next q1 q2 q3)
          have HE2 := hid (HE1.out.keptS q3.2 HOF1.out)
          have hz2 := HF2.out.small HOK.out hn
          clear q1 q2 q3 x0 x1 HE1 HOF1 HF1
          generalize hits (up, 2) (absD D1) = n1 at *
          have x0 := HE2.out.cell 0 (.int .i64 2) rfl
          have x1 := HE2.out.cell 1 (tkey p) rfl
          have HOF2 := hid (HF2.out.hub.off HE2.out (by decide) (by decide) (by decide))
          go_wp2_with fail
          refine (hub_fire hb mh D2 (p, 2) 4 W2 HF2.out.hub (HF2.out.ok HOK.out hN) (HF2.out.len hn)).mono ?_
          rintro e3 W3 ⟨rfl, D3, q1, q2, q3⟩
          have HF3 := hid (HF2.out.next q1 q2 q3)
          have HE3 := hid (HE2.out.keptS q3.2 HOF2.out)
          have hz3 := HF3.out.small HOK.out hn
          clear q1 q2 q3 x0 x1 HE2 HOF2 HF2
          generalize hits (p, 2) (absD D2) = n2 at *
          have HF9 : Hid (FirAt w hb mh D ((es.take (k + 1)).flatMap fires) W3 D3 (z + n0 + n1 + n2)) := by
            have h := HF3.out
            rw [HT.out, fires_2 HP.out rfl]
            exact hid (by simpa only [List.append_assoc, List.append_nil, List.cons_append, List.nil_append] using h)
          clear HT
          have x0 := HE3.out.cell 0 (.int .i64 2) rfl
          have x1 := HE3.out.cell 1 (tkey p) rfl
          go_wp2_with fail
          go_roundw
          case rel => exact ⟨k + 1, z + n0 + n1 + n2, D3, by go_num, by go_num, by omega, HF9⟩
          case measure => simp [intOf]; omega
        · have x0 := HE0.out.cell 0 (.int .i64 3) rfl
          have x1 := HE0.out.cell 1 (tkey p) rfl
          have HOF0 := hid (HF0.out.hub.off HE0.out (by decide) (by decide) (by decide))
          go_wp2_with fail
          refine (hub_fire hb mh D0 (p, 1) 3 W0 HF0.out.hub (HF0.out.ok HOK.out hN) (HF0.out.len hn)).mono ?_
          rintro e3 W1 ⟨rfl, D1, q1, q2, q3⟩
          have HF1 := hid (HF0.out.next q1 q2 q3)
          have HE1 := hid (HE0.out.keptS q3.2 HOF0.out)
          have hz1 := HF1.out.small HOK.out hn
          clear q1 q2 q3 x0 x1 HE0 HOF0 HF0
          generalize hits (p, 1) (absD D0) = n0 at *
          have HF9 : Hid (FirAt w hb mh D ((es.take (k + 1)).flatMap fires) W1 D1 (z + n0)) := by
            have h := HF1.out
            rw [HT.out, fires_3 HP.out rfl]
            exact hid (by simpa only [List.append_assoc, List.append_nil, List.cons_append, List.nil_append] using h)
          clear HT
          have x0 := HE1.out.cell 0 (.int .i64 3) rfl
          have x1 := HE1.out.cell 1 (tkey p) rfl
          go_wp2_with fail
          go_roundw
          case rel => exact ⟨k + 1, z + n0, D1, by go_num, by go_num, by omega, HF9⟩
          case measure => simp [intOf]; omega
    · have hkl : k = es.length := by omega
      subst hkl
      rw [List.take_of_length_le (Nat.le_refl _)] at HF
      clear hlt hk
      go_wp2_with fail
      go_ret
      exact ⟨by rw [HF.out.cnt]; rfl, Dc, HF.out.hub, HF.out.abs, HF.out.mov⟩
end Go.Proofs.YtjnbflhpboheiaaDoor
