/-
  WatchOnce: a walk.
-/
import Derived.Test.YtjnbflhpboheiaaDoorWtO
import Derived.Test.YtjnbflhpboheiaaDoorPathR4
namespace Go.Proofs.YtjnbflhpboheiaaDoor
open Go.RowKit Go.ChangeMaps
set_option maxRecDepth 20000
set_option linter.unusedVariables false

structure OnceAt (w wr : World) (hb mh kb : Nat) (k m : List UInt8 × Int) (fired : Bool) (D : List Dk) : Prop where
  hub : HubT wr hb mh D
  one : OneA k m fired (absD D)
  fresh : ∀ j, HubHas hb mh D j → w.heap.size ≤ j
  below : Below w.heap.size w wr
  key : ObjAt wr kb 28 #[tkey k.1, .int .i64 k.2]
theorem OnceAt.next {w wr wr' : World} {hb mh kb : Nat} {k m : List UInt8 × Int} {fired : Bool} {D : List Dk} (h : OnceAt w wr hb mh kb k m fired D) (hb' : Below wr.heap.size wr wr') : OnceAt w wr' hb mh kb k m fired D :=
  ⟨h.hub.below hb', h.one, h.fresh, h.below.trans (hb'.mono h.below.size), h.key.below hb'⟩
theorem OnceAt.fire {w wr wr' : World} {hb mh kb : Nat} {k m : List UInt8 × Int} {fired b : Bool} {D D' : List Dk} {e : Ef} (h : OnceAt w wr hb mh kb k m fired D) (h1 : HubT wr' hb mh D') (h2 : absD D' = runF ([e].flatMap fires) (absD D)) (h3 : MovedH wr wr' hb mh D D') (hb' : b = true ↔ hitP m e) : OnceAt w wr' hb mh kb k m (fired || b) D' ∧ cntF ([e].flatMap fires) (absD D) = if b && !fired then 1 else 0 := by
  have e1 : [e].flatMap fires = fires e := by simp
  rw [e1] at h2 ⊢
  obtain ⟨q1, q2⟩ := h.one.step e b hb'
  obtain ⟨q3, q4⟩ := h3.fresh h.fresh h.below.size
  refine ⟨⟨h1, by rw [h2]; exact q1, q4, h.below.trans q3, h.key.keptS h3.2 (h.hub.off h.key (by decide) (by decide) (by decide))⟩, q2⟩

set_option maxHeartbeats 16000000 in
theorem once_walk (p : List UInt8) (kind : Int) (a : Option Addr) (c : Nat) (es : List Ef) (w : World) (hr : RowAt w a (es.flatMap efC)) (hl : es.length ≤ 1152921504606846976) :
    Calls Tryd.prog 3 #[tkey p, .int .i64 kind, .slice a es.length c] w fun e w' => e = .returned (.bool true) ∧ Below w.heap.size w w' := by
  have HR := hid hr
  clear hr
  go_enter Tryd.func3, Tryd.ntmps3
  go_wp2_with fail
  refine (hub_new _).mono ?_
  rintro e1 w1 ⟨hb, mh, rfl, ht, hb1, hb2, hbw⟩
  have HT := hid ht
  have HB := hid hbw
  clear ht hbw
  go_wp2_with fail
  refine (ref_home ⟨p.toArray⟩ _).mono ?_
  rintro e2 w2 ⟨rfl, hbw⟩
  have HT2 := hid (HT.out.below hbw)
  have HB2 := hid (HB.out.trans (hbw.mono HB.out.size))
  clear hbw HT HB
  obtain ⟨hm, hhm⟩ : ∃ hm, homeP p = hm := ⟨_, rfl⟩
  obtain ⟨ok, hok⟩ : ∃ ok, (parts p).isSome = ok := ⟨_, rfl⟩
  rw [show txt (homeP (bl ⟨p.toArray⟩)) = tkey hm from by rw [← hhm]; rfl, show (parts (bl ⟨p.toArray⟩)).isSome = ok from hok]
  have HHM := hid hhm
  have HOK := hid hok
  have HK := hid (ObjAt.new w2 28 #[tkey hm, .int .i64 3])
  have HB3 := hid (below_new (w := w2) (.cells #[tkey hm, .int .i64 3] 28))
  have HT3 := hid (HT2.out.below HB3.out)
  clear hhm hok
  go_wp2_with fail
  refine (hub_Add hb mh [] (hm, 3) kind p _ HT3.out (fun a ha => by simp [absD] at ha)).mono ?_
  rintro e3 w3 ⟨rfl, D3, ht3, hm3, ha3⟩
  obtain ⟨hbw3, hfr3⟩ := hm3.fresh (fresh_nil hb1 hb2) (by have := HB2.out.size; simp; omega)
  have HB4 := hid ((HB2.out.trans (HB3.out.mono HB2.out.size)).trans hbw3)
  have HK3 := hid (HK.out.keptS hm3.2 (HT3.out.off HK.out (by decide) (by decide) (by decide)))
  have HA := hid ha3
  have HT4 := hid ht3
  have HFR := hid hfr3
  clear ha3 ht3 hm3 hbw3 hfr3 HT3 HB3 HK HT2 HB2
  change Hid (ObjAt w3 w2.heap.size 28 #[tkey hm, .int .i64 3]) at HK3
  generalize w2.heap.size = kb at *
  by_cases hadd : addE (absD []) (hm, 3) (p, kind) = 0
  · rw [hadd]
    have HADD : Hid (addE [] (homeP p, 3) (p, kind) = 0) := by show _ = _; rw [HHM.out]; exact hadd
    have HO : Hid (OnceAt w w3 hb mh kb (hm, 3) (p, kind) false D3) := ⟨HT4.out, by rw [HA.out, ← HHM.out]; exact (add_ok p kind HADD.out).1, HFR.out, HB4.out, HK3.out⟩
    have hkind := (add_ok p kind HADD.out).2
    clear hadd HADD HT4 HA HFR HB4 HK3 HOK
    go_wp2_with fail
    go_loopw [11, 54] (fun s i wr => ∃ (k : Nat) (fired : Bool) (D : List Dk), s = .bool fired ∧ i = .int .i64 k ∧ k ≤ es.length ∧ Hid (OnceAt w wr hb mh kb (hm, 3) (p, kind) fired D)) (fun _ i _ => es.length - (intOf i).toNat)
    case atStart => exact ⟨0, false, D3, rfl, rfl, Nat.zero_le _, HO⟩
    case round =>
      clear HO
      obtain ⟨k, fired, D, rfl, rfl, hk, HO⟩ := hrel
      by_cases hlt : k < es.length
      · obtain ⟨b, o, rfl, hcs⟩ := flat_row efC_len (by decide) (HR.out.below HO.out.below) hlt
        have e0 : wr.cell? ⟨b, o + k * 2, none⟩ = some (.int .i64 es[k].kind) := hcs 0 _ rfl
        have e1 : wr.cell? ⟨b, o + k * 2 + 1, none⟩ = some (tkey es[k].path) := hcs 1 _ rfl
        clear hcs
        generalize es[k] = e at *
        obtain ⟨ek, ep⟩ := e
        change wr.cell? ⟨b, o + k * 2, none⟩ = some (.int .i64 ek) at e0
        change wr.cell? ⟨b, o + k * 2 + 1, none⟩ = some (tkey ep) at e1
        go_wp2_with fail
        refine (ref_parent ⟨ep.toArray⟩ _).mono ?_
        rintro e2 W0 ⟨rfl, hb0⟩
        have HO0 := hid ((HO.out.next (below_new (.cells #[.int .i64 ek, tkey ep] 33))).next hb0)
        have HE0 := hid ((ObjAt.new wr 33 #[.int .i64 ek, tkey ep]).below hb0)
        change Hid (ObjAt W0 wr.heap.size 33 #[.int .i64 ek, tkey ep]) at HE0
        clear hb0 e0 e1 HO
        generalize wr.heap.size = eb at *
        obtain ⟨up, hup⟩ : ∃ up, (parentP ep).getD [] = up := ⟨_, rfl⟩
        obtain ⟨sm, hsm⟩ : ∃ sm, (parentP ep).isSome = sm := ⟨_, rfl⟩
        rw [show txt ((parentP (bl ⟨ep.toArray⟩)).getD []) = tkey up from by rw [← hup]; rfl, show (parentP (bl ⟨ep.toArray⟩)).isSome = sm from hsm]
        have HHIT : Hid ((sm = false → ¬ hitP (p, kind) ⟨ek, ep⟩) ∧ (sm = true → (hitP (p, kind) ⟨ek, ep⟩ ↔ 1 ≤ ek ∧ ek ≤ 3 ∧ (kind = 1 ∧ ep = p ∨ kind = 2 ∧ (ek ≠ 3 ∧ up = p ∨ ek = 2 ∧ ep = p))))) := by
          show _ ∧ _
          rw [← hsm, ← hup]
          unfold hitP
          cases hq : parentP ep with
          | none => simp
          | some u => simp
        clear hup hsm
        have x0 := HE0.out.cell 0 (.int .i64 ek) rfl
        have x1 := HE0.out.cell 1 (tkey ep) rfl
        go_upto_region 13 with fail
        go_cut [16] from 64 to 109 (fun s16 wx => wx = W0 ∧ ∃ hit : Bool, s16 = .bool hit ∧ Hid (hit = true ↔ hitP (p, kind) ⟨ek, ep⟩))
        case first =>
          cases sm with
          | false =>
            have HN := hid (HHIT.out.1 rfl)
            clear HHIT
            go_wp2_with fail
            go_meet
            case rel => exact ⟨rfl, false, rfl, ⟨(fun e => by cases e), fun q => absurd q HN.out⟩⟩
          | true =>
            have HI := hid (HHIT.out.2 rfl)
            clear HHIT
            rcases hkind with rfl | rfl
            · rcases (by omega : ek < 1 ∨ 3 < ek ∨ 1 ≤ ek ∧ ek ≤ 3) with hlo | hhi | ⟨h1, h3⟩
              · go_wp2_with fail
                go_meet
                case rel => exact ⟨rfl, false, rfl, ⟨(fun e => by cases e), fun q => by have q2 := HI.out.1 q; revert q2; simp [*]; try omega⟩⟩
              · go_wp2_with fail
                go_meet
                case rel => exact ⟨rfl, false, rfl, ⟨(fun e => by cases e), fun q => by have q2 := HI.out.1 q; revert q2; simp [*]; try omega⟩⟩
              · by_cases hpe : ep = p
                · subst hpe
                  go_wp2_with fail
                  go_meet
                  case rel => exact ⟨rfl, true, rfl, ⟨fun _ => HI.out.2 (by simp; try omega), fun _ => rfl⟩⟩
                · have hpe1 : (@BEq.beq _ List.instBEq ep p) = false := by simpa using hpe
                  have hpe2 : (@BEq.beq _ instBEqOfDecidableEq ep p) = false := by simpa using hpe
                  go_wp2_with fail
                  go_meet
                  case rel => exact ⟨rfl, false, rfl, ⟨(fun e => by cases e), fun q => by have q2 := HI.out.1 q; revert q2; simp [*]; try omega⟩⟩
            · rcases (by omega : ek < 1 ∨ 3 < ek ∨ ek = 1 ∨ ek = 2 ∨ ek = 3) with hlo | hhi | rfl | rfl | rfl
              · go_wp2_with fail
                go_meet
                case rel => exact ⟨rfl, false, rfl, ⟨(fun e => by cases e), fun q => by have q2 := HI.out.1 q; revert q2; simp [*]; try omega⟩⟩
              · go_wp2_with fail
                go_meet
                case rel => exact ⟨rfl, false, rfl, ⟨(fun e => by cases e), fun q => by have q2 := HI.out.1 q; revert q2; simp [*]; try omega⟩⟩
              · by_cases hup : up = p
                · subst hup
                  go_wp2_with fail
                  go_meet
                  case rel => exact ⟨rfl, true, rfl, ⟨fun _ => HI.out.2 (by simp; try omega), fun _ => rfl⟩⟩
                · have hup1 : (@BEq.beq _ List.instBEq up p) = false := by simpa using hup
                  have hup2 : (@BEq.beq _ instBEqOfDecidableEq up p) = false := by simpa using hup
                  go_wp2_with fail
                  go_meet
                  case rel => exact ⟨rfl, false, rfl, ⟨(fun e => by cases e), fun q => by have q2 := HI.out.1 q; revert q2; simp [*]; try omega⟩⟩
              · by_cases hup : up = p
                · subst hup
                  go_wp2_with fail
                  go_meet
                  case rel => exact ⟨rfl, true, rfl, ⟨fun _ => HI.out.2 (by simp; try omega), fun _ => rfl⟩⟩
                · have hup1 : (@BEq.beq _ List.instBEq up p) = false := by simpa using hup
                  have hup2 : (@BEq.beq _ instBEqOfDecidableEq up p) = false := by simpa using hup
                  by_cases hpe : ep = p
                  · subst hpe
                    go_wp2_with fail
                    go_meet
                    case rel => exact ⟨rfl, true, rfl, ⟨fun _ => HI.out.2 (by simp; try omega), fun _ => rfl⟩⟩
                  · have hpe1 : (@BEq.beq _ List.instBEq ep p) = false := by simpa using hpe
                    have hpe2 : (@BEq.beq _ instBEqOfDecidableEq ep p) = false := by simpa using hpe
                    go_wp2_with fail
                    go_meet
                    case rel => exact ⟨rfl, false, rfl, ⟨(fun e => by cases e), fun q => by have q2 := HI.out.1 q; revert q2; simp [*]; try omega⟩⟩
              · go_wp2_with fail
                go_meet
                case rel => exact ⟨rfl, false, rfl, ⟨(fun e => by cases e), fun q => by have q2 := HI.out.1 q; revert q2; simp [*]; try omega⟩⟩
        case rest =>
          obtain ⟨rfl, hit, rfl, HHB⟩ := hcut
          clear HHIT x0 x1
          have HE1 := hid (ObjAt.new wc 33 #[.int .i64 ek, tkey ep])
          have HB1 := hid (below_new (w := wc) (.cells #[.int .i64 ek, tkey ep] 33))
          have HO1 := hid (HO0.out.next HB1.out)
          have HRW : Hid (RowAt (wc.alloc (.cells #[.int .i64 ek, tkey ep] 33)) (some ⟨wc.heap.size, 0, none⟩) ([(⟨ek, ep⟩ : Ef)].flatMap efC)) := RowAt.new _ _ _ _
          have HOF := hid (HO1.out.hub.off HE1.out (by decide) (by decide) (by decide))
          have HOK1 := hid HO1.out.one.ok
          have x0 := HE0.out.cell 0 (.int .i64 ek) rfl
          have x1 := HE0.out.cell 1 (tkey ep) rfl
          go_wp2_with fail
          refine (hub_Fire hb mh D (some ⟨wc.heap.size, 0, none⟩) 1 [⟨ek, ep⟩] 1 _ HO1.out.hub HOK1.out.1 (by decide) (by have := HOK1.out.2; unfold absD at this; rw [List.length_map] at this; omega) HRW.out (fun ad e _ => by cases e; exact HOF.out) (by simp)).mono ?_
          rintro e3 w3 ⟨rfl, D3, ht3, ha3, hm3⟩
          obtain ⟨q1, q2⟩ := HO1.out.fire (b := hit) ht3 ha3 hm3 HHB.out
          rw [q2]
          have HO2 := hid q1
          clear q1 q2 ht3 ha3 hm3 HRW HOF HE1 HB1 HO1 HO0 HE0 x0 x1 HOK1 HHB
          have HT2 := hid HO2.out.one.told
          have HOKQ : Hid (∀ a ∈ absD D3, a.ev.length ≤ 1073741824) := fun a ha => by have := (HO2.out.one.ok.1 a ha).few; omega
          have k0 := HO2.out.key.cell 0 (tkey hm) rfl
          have k1 := HO2.out.key.cell 1 (.int .i64 3) rfl
          cases hit <;> cases fired
          all_goals
            go_wp2_with fail
            refine (hub_Queue hb mh D3 (hm, 3) _ HO2.out.hub HOKQ.out).mono ?_
            rintro e6 w6 ⟨v6, rfl, ho6, hb6⟩
            have HO3 := hid (HO2.out.next hb6)
            clear k0 k1 HO2
            first
              | (obtain ⟨ekk, hev⟩ := HT2.out.2.1 rfl
                 rw [hev] at ho6
                 obtain ⟨va, vc, rfl, hr6, -⟩ := own_addr ho6
                 obtain ⟨b6, o6, rfl, hcs⟩ := flat_row evC_len (by decide) hr6 (j := 0) (by simp)
                 have y0 : w6.cell? ⟨b6, o6, none⟩ = some (.int .i64 1) := hcs 0 _ rfl
                 have y2 : w6.cell? ⟨b6, o6 + 2, none⟩ = some (tkey p) := hcs 2 _ rfl
                 clear hcs hr6 ho6 hb6 hev HT2)
              | (have hev := HT2.out.2.2 rfl
                 rw [hev] at ho6
                 obtain ⟨va, vc, rfl, -, -⟩ := own_addr ho6
                 clear ho6 hb6 hev HT2)
            go_wp2_with fail
            go_roundw
            case rel => exact ⟨k + 1, _, D3, rfl, by go_num, by omega, HO3⟩
            case measure => simp [intOf]; omega
      · have hkl : k = es.length := by omega
        clear hlt
        subst hkl
        have h9 := HO.out.one.told
        have hq9 := HO.out.one.ok
        have HOKQ : Hid (∀ a ∈ absD D, a.ev.length ≤ 1073741824) := fun a ha => by have := (hq9.1 a ha).few; omega
        obtain ⟨t1, t2, t3⟩ := h9
        have HE : Hid ((marksA (absD D) (hm, 3) = if fired then 0 else 1) ∧ (evsA (absD D) (hm, 3)).length = if fired then 1 else 0) := by
          cases fired with
          | true =>
            obtain ⟨ek, he⟩ := t2 rfl
            rw [he] at t1 ⊢
            exact ⟨by simpa using t1, rfl⟩
          | false =>
            rw [t3 rfl] at t1 ⊢
            exact ⟨by simpa using t1, rfl⟩
        clear t1 t2 t3 hq9 HHM hkind
        have k0 := HO.out.key.cell 0 (tkey hm) rfl
        have k1 := HO.out.key.cell 1 (.int .i64 3) rfl
        cases fired
        all_goals
          have HNM := hid HE.out.1
          have HLL := hid HE.out.2
          simp only [if_true, Bool.false_eq_true, if_false] at HNM HLL
          clear HE
          go_wp2_with fail
          go_region_with (first
            | (go_at_call 13; refine (hub_Watches hb mh D (hm, 3) _ (HO.out.next (below_drewN' 1)).hub).mono ?_; rintro e5 w5 ⟨rfl, hb5⟩; rw [HNM.out]; have HO5 := hid ((HO.out.next (below_drewN' 1)).next hb5); have j0 := HO5.out.key.cell 0 (tkey hm) rfl; have j1 := HO5.out.key.cell 1 (.int .i64 3) rfl; clear hb5)
            | (go_at_call 12; refine (hub_Queue hb mh D (hm, 3) _ HO5.out.hub HOKQ.out).mono ?_; rintro e6 w6 ⟨v6, rfl, ho6, hb6⟩; obtain ⟨va6, vc6, rfl, -, -⟩ := own_addr ho6; rw [HLL.out]; have HO6 := hid (HO5.out.next hb6); clear hb6 ho6)
            | (go_at_call 9; refine (awake16 _).mono ?_; rintro e7 w7 ⟨rfl, hb7⟩; have HO7 := hid (HO6.out.next hb7); clear hb7))
          all_goals
            go_wp2_with fail
            go_ret
            exact ⟨rfl, HO7.out.below⟩
  · have HN := hid (add_none p kind (by rw [HHM.out]; exact hadd))
    have e1 : (addE (absD []) (hm, 3) (p, kind) != 0) = true := bne_iff_ne.2 hadd
    clear hadd HK3 HT4 HA HFR
    generalize addE (absD []) (hm, 3) (p, kind) = er at *
    have HN2 : Hid (ok = false ∨ ok = true ∧ hm = [] ∨ ok = true ∧ ¬ hm = [] ∧ (kind ≠ 1 ∧ kind ≠ 2)) := by
      have h := HN.out
      rw [HHM.out, HOK.out] at h
      show _ ∨ _
      cases ok with
      | false => exact .inl rfl
      | true =>
        by_cases h0 : hm = []
        · exact .inr (.inl ⟨rfl, h0⟩)
        · rcases h with h | h | h
          · cases h
          · exact absurd h h0
          · exact .inr (.inr ⟨rfl, h0, h⟩)
    clear HN HHM HOK
    rcases HN2.out with rfl | ⟨rfl, rfl⟩ | ⟨rfl, h0, h1, h2⟩
    · go_wp2_with fail
      refine (awake16 _).mono ?_
      rintro e4 w4 ⟨rfl, hb4⟩
      have HB5 := hid (HB4.out.trans (hb4.mono HB4.out.size))
      go_wp2_with fail
      go_ret
      exact ⟨rfl, HB5.out⟩
    · go_wp2_with fail
      refine (awake16 _).mono ?_
      rintro e4 w4 ⟨rfl, hb4⟩
      have HB5 := hid (HB4.out.trans (hb4.mono HB4.out.size))
      go_wp2_with fail
      go_ret
      exact ⟨rfl, HB5.out⟩
    · have e2 : (kind != 1) = true := bne_iff_ne.2 h1
      have e3 : (kind != 2) = true := bne_iff_ne.2 h2
      go_wp2_with fail
      refine (awake16 _).mono ?_
      rintro e4 w4 ⟨rfl, hb4⟩
      have HB5 := hid (HB4.out.trans (hb4.mono HB4.out.size))
      go_wp2_with fail
      go_ret
      exact ⟨rfl, HB5.out⟩
end Go.Proofs.YtjnbflhpboheiaaDoor
