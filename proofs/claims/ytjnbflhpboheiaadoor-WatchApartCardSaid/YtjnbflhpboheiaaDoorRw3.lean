/-
  step: what it does to the hub.
-/
import Derived.Test.YtjnbflhpboheiaaDoorRw2
import Derived.Deep.RegionHeld3
import Derived.Deep.CutBlock
namespace Go.Proofs.YtjnbflhpboheiaaDoor
open Go.RowKit Go.ChangeMaps
set_option maxRecDepth 20000
set_option linter.unusedVariables false

def stepA (A : List Da) (o : Wq) : List Da :=
  if o.kind = 1 then addA A (o.kh, o.kn) (o.path, o.n) else if o.kind = 2 then runF (o.es.flatMap fires) A else if o.kind = 3 then ackH A (o.kh, o.kn) o.n else if o.kind = 4 then dropA A (o.kh, o.kn) else A
def StepP (w : World) (hb mh xb : Nat) (D : List Dk) (A' : List Da) (w' : World) : Prop :=
  ∃ D', HubT w' hb mh D' ∧ absD D' = A' ∧ (∀ k, HubHas hb mh D' k → HubHas hb mh D k ∨ w.heap.size ≤ k) ∧ KeptS (fun j => HubHas hb mh D j ∨ j = xb) w w'
theorem Rf0.off {w : World} {hb mh xb : Nat} {D : List Dk} (h : HubT w hb mh D) (hx : Rf0 w xb) : ¬ HubHas hb mh D xb := h.off hx (by decide) (by decide) (by decide)
theorem step_end {w w1 w4 w5 : World} {hb mh xb : Nat} {D D4 : List Dk} {A' : List Da} (hb1 : Below w.heap.size w w1) (h4 : HubT w4 hb mh D4) (m4 : MovedH w1 w4 hb mh D D4) (a4 : absD D4 = A') (hx : Rf0 w4 xb) (hk : KeptS (fun j => j = xb) w4 w5) : StepP w hb mh xb D A' w5 := by
  refine ⟨D4, h4.keptS hk (fun k hk e => Rf0.off h4 hx (e ▸ hk)), a4, fun k hk => (m4.1 k hk).imp id (fun q => Nat.le_trans hb1.size q), ?_⟩
  exact ((KeptS.of_below hb1).next (m4.2.imp fun k e => .inl e)).next (hk.imp fun k e => .inr e)

set_option maxHeartbeats 4000000 in
theorem wt_step (hb mh : Nat) (D : List Dk) (xb : Nat) (o : Wq) (N : Int) (w : World) (h : HubT w hb mh D) (hx : Rf0 w xb) (hq : WqAt w o) (ho : ∀ a ∈ absD D, a.Ok N) (hN : N ≤ 2305843009213693952) (hn : D.length ≤ 1125899906842624) :
    Calls Tryd.prog 16 #[.pointer (some ⟨hb, 0, none⟩), .pointer (some ⟨xb, 0, none⟩), .agg #[.int .i64 o.kind, .int .i64 o.n, tkey o.kh, .int .i64 o.kn, tkey o.path, .slice o.ea o.es.length o.ec]] w fun e w' => BoolP e ∧ StepP w hb mh xb D (stepA (absD D) o) w' := by
  obtain ⟨qk, qn, qh, qkn, qp, qa, qc, qe⟩ := o
  have HB := hid (below_new (w := w) (.cells #[.int .i64 qk, .int .i64 qn, tkey qh, .int .i64 qkn, tkey qp, .slice qa qe.length qc] 43))
  have HS := hid (ObjAt.new w 43 #[.int .i64 qk, .int .i64 qn, tkey qh, .int .i64 qkn, tkey qp, .slice qa qe.length qc])
  have HH := hid (h.below HB.out)
  have HX := hid (hx.below HB.out)
  have HQ := hid (hq.below HB.out)
  have HOK := hid ho
  have hxs := ObjAt.lt hx
  have HXS : Hid (w.heap.size ≠ xb) := fun e => by omega
  have hfew : ∀ a ∈ absD D, a.ev.length ≤ 1073741824 ∧ a.marks.length ≤ 1073741824 := fun a ha => by
    have := (ho a ha).few; omega
  have HFEW := hid hfew
  clear h hx hq ho hfew hxs
  have e0 := HS.out.cell 0 (.int .i64 qk) rfl
  go_enter Tryd.func16, Tryd.ntmps16
  go_upto_region 1 with fail
  generalize hsb : w.heap.size = sb at HS HXS ⊢
  generalize w.alloc (.cells #[.int .i64 qk, .int .i64 qn, tkey qh, .int .i64 qkn, tkey qp, .slice qa qe.length qc] 43) = w1 at *
  have HSB := hid hsb
  clear hsb e0
  have e0 := HS.out.cell 0 (.int .i64 qk) rfl
  have e1 := HS.out.cell 1 (.int .i64 qn) rfl
  have e2 := HS.out.cell 2 (tkey qh) rfl
  have e3 := HS.out.cell 3 (.int .i64 qkn) rfl
  have e4 := HS.out.cell 4 (tkey qp) rfl
  have e5 := HS.out.cell 5 (.slice qa qe.length qc) rfl
  by_cases h1 : qk = 1
  · subst h1
    go_wp2_with fail
    go_region_held3 (fun w' => w'.cell? ⟨sb, 1, none⟩ = some (.int .i64 qn) ∧ w'.cell? ⟨sb, 2, none⟩ = some (tkey qh) ∧ w'.cell? ⟨sb, 3, none⟩ = some (.int .i64 qkn) ∧ w'.cell? ⟨sb, 4, none⟩ = some (tkey qp))
      (first | exact ⟨e1'', e2'', e3'', e4''⟩ | exact ⟨e1', e2', e3', e4'⟩ | exact ⟨e1, e2, e3, e4⟩ | go_keep)
      (first
        | ((go_at_call 8; refine (hub_Add hb mh D (qh, qkn) qn qp _ (HH.out.below (below_drewN' 1)) HFEW.out).mono ?_; rintro e w4 ⟨rfl, D4, h4, m4, a4⟩; have HX4 : Hid (Rf0 w4 xb) := hid (ObjAt.keptS (HX.out.below (below_drewN' 1)) m4.2 (Rf0.off HH.out HX.out)); have HS4 := hid (ObjAt.keptS (HS.out.below (below_drewN' 1)) m4.2 (HH.out.off HS.out (by decide) (by decide) (by decide))); have H4 := hid h4; have M4 := hid m4; have A4 := hid a4; have e1' := HS4.out.cell 1 (.int .i64 qn) rfl; have e2' := HS4.out.cell 2 (tkey qh) rfl; have e3' := HS4.out.cell 3 (.int .i64 qkn) rfl; have e4' := HS4.out.cell 4 (tkey qp) rfl; clear h4 m4 a4))
        | ((go_at_call 24; refine (rf_Add0 xb qh qkn qn qp _ HX4.out).mono ?_; rintro e w5 ⟨⟨r, rfl⟩, hk5⟩; have HS5 := hid (HS4.out.keptS hk5 (fun e => HXS.out e)); have HK5 := hid hk5; have e1'' := HS5.out.cell 1 (.int .i64 qn) rfl; have e2'' := HS5.out.cell 2 (tkey qh) rfl; have e3'' := HS5.out.cell 3 (.int .i64 qkn) rfl; have e4'' := HS5.out.cell 4 (tkey qp) rfl; clear hk5)))
    all_goals
      have HEND := hid (step_end (A' := stepA (absD D) ⟨1, qn, qh, qkn, qp, qa, qc, qe⟩) (HB.out.trans (below_drewN' (B := w.heap.size) (w := w1) 1)) H4.out M4.out A4.out HX4.out HK5.out)
      clear e1' e2' e3' e4' e1'' e2'' e3'' e4'' HS5 HS4 H4 M4 A4 HX4 HK5 e0 e1 e2 e3 e4 e5
      go_wp2_with fail
      go_ret
      exact ⟨⟨_, rfl⟩, HEND.out⟩
  · have b1 : (qk == 1) = false := beq_eq_false_iff_ne.2 h1
    by_cases h3 : qk = 3
    · subst h3
      go_wp2_with fail
      go_region_held3 (fun w' => w'.cell? ⟨sb, 1, none⟩ = some (.int .i64 qn) ∧ w'.cell? ⟨sb, 2, none⟩ = some (tkey qh) ∧ w'.cell? ⟨sb, 3, none⟩ = some (.int .i64 qkn))
        (first | exact ⟨e1', e2', e3'⟩ | exact ⟨e1, e2, e3⟩ | go_keep)
        (first
          | ((go_at_call 14; refine (hub_Ack hb mh D (qh, qkn) qn _ (HH.out.below (below_drewN' 1)) (fun a ha => (HFEW.out a ha).1)).mono ?_; rintro e w4 ⟨rfl, D4, h4, m4, a4⟩; have HX4 : Hid (Rf0 w4 xb) := hid (ObjAt.keptS (HX.out.below (below_drewN' 1)) m4.2 (Rf0.off HH.out HX.out)); have HS4 := hid (ObjAt.keptS (HS.out.below (below_drewN' 1)) m4.2 (HH.out.off HS.out (by decide) (by decide) (by decide))); have H4 := hid h4; have M4 := hid m4; have A4 := hid a4; have e1' := HS4.out.cell 1 (.int .i64 qn) rfl; have e2' := HS4.out.cell 2 (tkey qh) rfl; have e3' := HS4.out.cell 3 (.int .i64 qkn) rfl; clear h4 m4 a4))
          | ((go_at_call 26; refine (rf_Ack0 xb qh qkn qn _ HX4.out).mono ?_; rintro e w5 ⟨⟨r, rfl⟩, rfl⟩; have HR5 : Hid (r = r) := rfl)))
      all_goals
        have HEND := hid (step_end (A' := stepA (absD D) ⟨3, qn, qh, qkn, qp, qa, qc, qe⟩) (HB.out.trans (below_drewN' (B := w.heap.size) (w := w1) 1)) H4.out M4.out A4.out HX4.out (KeptS.refl _ _))
        clear e1' e2' e3' HS4 H4 M4 A4 HX4 e0 e1 e2 e3 e4 e5
        go_wp2_with fail
        go_ret
        exact ⟨⟨_, rfl⟩, HEND.out⟩
    · have b3 : (qk == 3) = false := beq_eq_false_iff_ne.2 h3
      by_cases h4 : qk = 4
      · subst h4
        have HG := hid (ObjAt.new w1 28 #[tkey qh, .int .i64 qkn])
        have HB2 := hid (below_new (w := w1) (.cells #[tkey qh, .int .i64 qkn] 28))
        go_wp2_with fail
        refine (hub_Drop hb mh D (qh, qkn) w1.heap.size 1 _ (HH.out.below HB2.out) HG.out).mono ?_
        rintro e w4 ⟨rfl, D4, h4, m4, a4⟩
        have HX4 : Hid (Rf0 w4 xb) := hid (ObjAt.keptS (HX.out.below HB2.out) m4.2 (Rf0.off HH.out HX.out))
        have HS4 := hid (ObjAt.keptS (HS.out.below HB2.out) m4.2 (HH.out.off HS.out (by decide) (by decide) (by decide)))
        have HEND := hid (step_end (A' := stepA (absD D) ⟨4, qn, qh, qkn, qp, qa, qc, qe⟩) (HB.out.trans (HB2.out.mono HB.out.size)) h4 m4 a4 HX4.out (KeptS.refl _ _))
        clear h4 m4 a4 e0 e1 e2 e3 e4 e5
        have e2 := HS4.out.cell 2 (tkey qh) rfl
        have e3 := HS4.out.cell 3 (.int .i64 qkn) rfl
        go_wp2_with fail
        refine (rf_Drop0 xb qh qkn _ HX4.out).mono ?_
        rintro e w5 ⟨rfl, rfl⟩
        go_wp2_with fail
        go_ret
        exact ⟨⟨_, rfl⟩, HEND.out⟩
      · have b4 : (qk == 4) = false := beq_eq_false_iff_ne.2 h4
        by_cases h2 : qk = 2
        · subst h2
          go_wp2_with fail
          clear e0 e1 e2 e3 e4 e5
          go_loopw [7, 40] (fun a i wr => ∃ k : Nat, a = .int .i64 0 ∧ i = .int .i64 k ∧ k ≤ qe.length ∧ Hid (Below w1.heap.size w1 wr)) (fun _ i _ => qe.length - (intOf i).toNat)
          case atStart => exact ⟨0, rfl, rfl, Nat.zero_le _, Below.refl _ _⟩
          case round =>
            obtain ⟨k, rfl, rfl, hk, HW⟩ := hrel
            have hql : qe.length ≤ 5864062014805 := HQ.out.len
            have hqr : RowAt wr qa (qe.flatMap efC) := HQ.out.row.below HW.out
            have hqn : qa = none → qc = 0 := HQ.out.nil
            have HSw := hid (HS.out.below HW.out)
            have HXw := hid (HX.out.below HW.out)
            by_cases hlt : k < qe.length
            · obtain ⟨b, o, rfl, hcs⟩ := flat_row efC_len (by decide) hqr hlt
              have x0 : wr.cell? ⟨b, o + k * 2, none⟩ = some (.int .i64 qe[k].kind) := hcs 0 _ rfl
              have x1 : wr.cell? ⟨b, o + k * 2 + 1, none⟩ = some (tkey qe[k].path) := hcs 1 _ rfl
              clear hcs hqr hqn
              generalize qe[k] = e at *
              obtain ⟨ek, ep⟩ := e
              simp only at x0 x1
              have HB2 := hid (below_new (w := wr) (.cells #[.int .i64 ek, tkey ep] 33))
              have HX2 := hid (HXw.out.below HB2.out)
              go_wp2_with fail
              refine (rf_Fire0 xb ek ep _ HX2.out).mono ?_
              rintro e w5 ⟨rfl, hb5⟩
              have HW5 := hid (HW.out.trans ((HB2.out.mono HW.out.size).trans (hb5.mono (Nat.le_trans HW.out.size HB2.out.size))))
              clear hb5 x0 x1 HB2 HX2
              go_wp2_with fail
              go_roundw
              case rel => exact ⟨k + 1, rfl, by go_num, by omega, HW5⟩
              case measure => simp [intOf]; omega
            · have hke : k = qe.length := by omega
              clear hlt
              subst hke
              have e5 := HSw.out.cell 5 (.slice qa qe.length qc) rfl
              have HB0 : Hid (Below wr.heap.size wr (wr.alloc (.cells #[] 33))) := below_new _
              have e6 : (wr.alloc (.cells #[] 33)).cell? ⟨sb, 5, none⟩ = some (.slice qa qe.length qc) := (HB0.out.cell (p := ⟨sb, 5, none⟩) (lt_of_cell e5)).trans e5
              have HQR := hid hqr
              have HHw := hid (HH.out.below HW.out)
              clear hqr
              go_wp2_with (at_builtin; refine wpList_app rfl (.tmp 54) (.tmp 56) 22 rfl wr.heap.size 33 Tryd.underlying22 infoEf rfl (by decide) _ 0 [] rfl (World.ownsRow_made wr #[] 0 (Nat.le_refl _) (Nat.zero_le _) rfl) qa qe.length qc (qe.flatMap efC) rfl (flat_len efC_len qe) (HQR.out.below HB0.out) (efC_one qe) (by unfold maxLen; omega) (by omega) (by simp) hqn ?_; intro v3 w3 ho3 hg3 _; refine Stop.mk ?_)
              have hb3 : Below wr.heap.size wr w3 := below_app HB0.out (World.ownsRow_made (size := 2) wr #[] 0 (Nat.le_refl _) (Nat.zero_le _) rfl) hg3 (Nat.le_refl _) (by simp)
              rw [Nat.zero_add, List.nil_append] at ho3
              have HH3 := hid (HHw.out.below hb3)
              have HX3 := hid (HXw.out.below hb3)
              have HB3 := hid ((HB.out.trans (HW.out.mono HB.out.size)).trans (hb3.mono (Nat.le_trans HB.out.size HW.out.size)))
              have HOF3 : Hid (∀ g, v3.ownBlock = some g → ¬ HubHas hb mh D g) := fun g hg => by
                obtain ⟨cur, hc⟩ := own_obj ho3 hg
                exact HH3.out.off hc (by decide) (by decide) (by decide)
              obtain ⟨ra, rc, rfl, hrr, -⟩ := own_addr ho3
              have HRR := hid hrr
              clear ho3 hg3 hb3 hrr e5 e6 hqn
              refine Stop.go ?_
              go_wp2_with fail
              refine (hub_Fire hb mh D ra rc qe N _ HH3.out HOK.out hN hn HRR.out (fun ad e _ => HOF3.out ad.block (by rw [e]; rfl)) (by omega)).mono ?_
              rintro e w6 ⟨rfl, D6, h6, a6, m6⟩
              have hx6 : Rf0 w6 xb := ObjAt.keptS HX3.out m6.2 (Rf0.off HH3.out HX3.out)
              have HEND := hid (step_end (A' := stepA (absD D) ⟨2, qn, qh, qkn, qp, qa, qc, qe⟩) HB3.out h6 m6 a6 hx6 (KeptS.refl _ _))
              clear h6 m6 a6 hx6
              go_wp2_with fail
              go_ret
              exact ⟨⟨_, rfl⟩, HEND.out⟩
        · have b2 : (qk == 2) = false := beq_eq_false_iff_ne.2 h2
          have HEND : Hid (StepP w hb mh xb D (stepA (absD D) ⟨qk, qn, qh, qkn, qp, qa, qc, qe⟩) w1) := by
            have e : stepA (absD D) ⟨qk, qn, qh, qkn, qp, qa, qc, qe⟩ = absD D := by
              unfold stepA
              rw [if_neg h1, if_neg h2, if_neg h3, if_neg h4]
            rw [e]
            exact step_end HB.out HH.out (MovedH.refl _ _ _ _) rfl HX.out (KeptS.refl _ _)
          clear h1 h2 h3 h4
          go_wp2_with fail
          go_ret
          exact ⟨⟨_, rfl⟩, HEND.out⟩
end Go.Proofs.YtjnbflhpboheiaaDoor
