/-
  The document's disk: Remove, Rename.
-/
import Derived.Test.YtibhkkfbhbnmeaaDr5
namespace Go.Proofs.Ytibhkkfbhbnmeaa
open Go.RowKit
set_option maxRecDepth 20000
set_option linter.unusedVariables false

theorem remA_snoc (X : List Ab) (ns : List (List UInt8)) (n : List UInt8) : remA X (ns ++ [n]) = delA (remA X ns) n := by
  unfold remA; rw [List.foldl_append]; rfl
set_option maxHeartbeats 2000000 in
theorem refd_remove (xd B : Nat) (cap : Int) (lv : Value) (L : List Fr) (a : Option Addr) (ns : List (List UInt8)) (c : Nat) (w : World) (h : RfD w xd cap B lv L) (hl : L.length ≤ 1048576) (hr : RowAt w a (ns.map fun s => Value.string ⟨s.toArray⟩)) (hn : ns.length ≤ 1048576) (hs : ∀ s ∈ ns, s.length ≤ 1048576) (hoff : ∀ ad, a = some ad → ns ≠ [] → ad.block ≠ xd) :
    Calls Try.prog 23 #[.pointer (some ⟨xd, 0, none⟩), .slice a ns.length c] w (RApPost w xd cap B lv L (allR L ns) (fun X => if allR L ns = 0 then remA X ns else X)) := by
  have HH := hid h
  have HR := hid hr
  have HS := hid hs
  have HOF := hid hoff
  obtain ⟨code, hcode⟩ : ∃ k, k = allR L ns := ⟨_, rfl⟩
  rw [← hcode]
  have HC := hid hcode
  obtain ⟨R, hR⟩ : ∃ R : List Ab → List Ab, R = fun X => if code = 0 then remA X ns else X := ⟨_, rfl⟩
  rw [← hR]
  have HR0 : Hid (code = 0 → R = fun X => remA X ns) := fun e => by rw [hR]; funext X; rw [if_pos e]
  have HR1 : Hid (code ≠ 0 → ∀ X, R X = X) := fun e X => by rw [hR]; exact if_neg e
  clear hR hcode h hr hs hoff
  go_enter Try.func23, Try.ntmps23
  go_wp2_with fail
  refine (refd_all xd B cap lv L a ns c w HH.out (by omega) HR.out (by omega) HS.out).mono ?_
  rintro e w1 ⟨rfl, rfl⟩
  rw [← HC.out]
  by_cases hz : code = 0
  · have HZ := hid hz
    subst hz
    go_wp2_with fail
    go_loopw [6] (fun s wr => ∃ (i : Nat) (lv' : Value) (L' : List Fr), s = .int .i64 i ∧ i ≤ ns.length ∧ L'.length ≤ L.length ∧ Hid (RfD wr xd cap B lv' L') ∧ Hid (KeptS (fun k => k = xd) w wr) ∧ Hid (∀ k, lv'.ownBlock = some k → lv.ownBlock = some k ∨ w.heap.size ≤ k) ∧ Hid (∀ x ∈ L', x ∈ L) ∧ Hid (∀ X, Rel L X → Rel L' (remA X (ns.take i)))) (fun s _ => ns.length - (intOf s).toNat)
    case atStart => exact ⟨0, lv, L, rfl, Nat.zero_le _, Nat.le_refl _, HH.out, KeptS.refl _ _, fun k e => .inl e, fun x hx => hx, fun X r => r⟩
    case round =>
      obtain ⟨i, lv', L', rfl, hi, hll, HD, HK, HF, HSub, HRel⟩ := hrel
      by_cases hlt : i < ns.length
      · have HRw : Hid (RowAt wr a (ns.map fun s => Value.string ⟨s.toArray⟩)) := HR.out.keptS HK.out (fun ad e => HOF.out ad e (by intro h; rw [h] at hlt; simp at hlt))
        obtain ⟨b, o, rfl, r0⟩ := name_row HRw.out hlt
        have htk : Hid (ns.take (i + 1) = ns.take i ++ [ns[i]]) := List.take_succ_eq_append_getElem hlt
        generalize ns[i] = nm at *
        go_wp2_with fail
        refine (refd_find xd B cap lv' L' nm wr HD.out (by omega)).mono ?_
        rintro e w2 ⟨rfl, rfl⟩
        by_cases hf : findR L' nm < 0
        · have HRel2 : Hid (∀ X, Rel L X → Rel L' (remA X (ns.take (i + 1)))) := fun X r => by rw [htk.out, remA_snoc]; exact (HRel.out X r).none hf
          go_wp2_with fail
          go_roundw
          case rel => exact ⟨i + 1, lv', L', by go_num, by omega, hll, HD.out, HK.out, HF.out, HSub.out, HRel2.out⟩
          case measure => simp [intOf]; omega
        · obtain ⟨j, hj, hfe, hnm⟩ := findR_at hf
          have HRel2 : Hid (∀ X, Rel L X → Rel (L'.eraseIdx j) (remA X (ns.take (i + 1)))) := fun X r => by rw [htk.out, remA_snoc]; exact (HRel.out X r).drop hj hnm
          rw [hfe]
          clear hf hfe hnm r0
          go_wp2_with fail
          refine (refd_drop xd B cap lv' L' j wr HD.out (by omega) hj).mono ?_
          rintro e w3 ⟨rfl, lv3, hd3, hf3, hk3⟩
          have HD3 := hid hd3
          have HK3 := hid (HK.out.next hk3)
          have HF3 : Hid (∀ k, lv3.ownBlock = some k → lv.ownBlock = some k ∨ w.heap.size ≤ k) := fun k e => .inr (Nat.le_trans HK.out.size (hf3 k e))
          have HS3 : Hid (∀ x ∈ L'.eraseIdx j, x ∈ L) := fun x hx => HSub.out x (List.mem_of_mem_eraseIdx hx)
          have hl3 : (L'.eraseIdx j).length ≤ L.length := by rw [List.length_eraseIdx]; split <;> omega
          clear hd3 hf3 hk3 HD HK HF HSub HRel
          go_wp2_with fail
          go_roundw
          case rel => exact ⟨i + 1, lv3, _, by go_num, by omega, hl3, HD3.out, HK3.out, HF3.out, HS3.out, HRel2.out⟩
          case measure => simp [intOf]; omega
      · have hie : i = ns.length := by omega
        have HFIN : Hid (∀ X, Rel L X → Rel L' (remA X ns)) := fun X r => by have := HRel.out X r; rw [hie, List.take_length] at this; exact this
        clear hie
        go_wp2_with fail
        go_ret
        rw [HR0.out (by trivial)]
        exact ⟨rfl, lv', L', HD.out, HFIN.out, moved_xd HK.out HF.out (fun x hx => ⟨x, HSub.out x hx, rfl⟩)⟩
  · have hz2 : (code != 0) = true := by simpa using hz
    have hz3 : (code == 0) = false := by simpa using hz
    have HNZ := hid hz
    clear hz
    go_wp2_with fail
    go_ret
    exact rap_same HH.out (Below.refl _ _) (HR1.out HNZ.out)

def rnE (L : List Fr) (a b : List UInt8) : Int := if fname a && fname b then (if 0 ≤ findR L a then 0 else 31) else 30
def RnPost (w : World) (xd : Nat) (cap : Int) (B : Nat) (lv : Value) (L : List Fr) (a b : List UInt8) (code : Int) (e : Ending) (w' : World) : Prop :=
  e = .returned (.int .i64 code) ∧ ∃ lv' L', RfD w' xd cap B lv' L' ∧ RMoved w w' xd lv L lv' L' ∧ (code ≠ 0 → L' = L) ∧ (code = 0 → ∃ i, ∃ hi : i < L.length, L[i].nm = a ∧ ∀ X, Rel L X → Rel L' (putA (delA X a) (b, L[i].b, L[i].safe)))
theorem rn_same {w w' : World} {xd B : Nat} {cap : Int} {lv : Value} {L : List Fr} {a b : List UInt8} {code : Int} (h : RfD w xd cap B lv L) (hb : Below w.heap.size w w') (hc : code ≠ 0) : RnPost w xd cap B lv L a b code (.returned (.int .i64 code)) w' :=
  ⟨rfl, lv, L, h.below hb, ⟨fun k hk => .inl hk, KeptS.of_below hb⟩, fun _ => rfl, fun e => absurd e hc⟩
set_option maxHeartbeats 2000000 in
theorem refd_rename (xd B : Nat) (cap : Int) (lv : Value) (L : List Fr) (a b : List UInt8) (w : World) (h : RfD w xd cap B lv L) (hl : L.length ≤ 1048576) (ha : a.length ≤ 1048576) (hb : b.length ≤ 1048576) :
    Calls Try.prog 22 #[.pointer (some ⟨xd, 0, none⟩), .string ⟨a.toArray⟩, .string ⟨b.toArray⟩] w (RnPost w xd cap B lv L a b (rnE L a b)) := by
  have HH := hid h
  obtain ⟨code, hcode⟩ : ∃ k, k = rnE L a b := ⟨_, rfl⟩
  rw [← hcode]
  have HC := hid hcode
  clear hcode h
  go_enter Try.func22, Try.ntmps22
  go_wp2_with fail
  refine (ref_name ⟨a.toArray⟩ w ha).mono ?_
  rintro e w1 ⟨rfl, rfl⟩
  rw [show (ByteArray.mk a.toArray).data.toList = a from rfl]
  cases hfa : fname a with
  | false =>
    have HCC : Hid (code = 30) := by show code = 30; rw [HC.out]; unfold rnE; rw [hfa]; rfl
    clear hfa
    go_wp2_with fail
    go_ret
    rw [show code = 30 from HCC.out]
    exact rn_same HH.out (Below.refl _ _) (by decide)
  | true =>
    have HFA := hid hfa
    clear hfa
    go_wp2_with fail
    refine (ref_name ⟨b.toArray⟩ w hb).mono ?_
    rintro e w1 ⟨rfl, rfl⟩
    rw [show (ByteArray.mk b.toArray).data.toList = b from rfl]
    cases hfb : fname b with
    | false =>
      have HCC : Hid (code = 30) := by show code = 30; rw [HC.out]; unfold rnE; rw [hfb, Bool.and_false]; rfl
      clear hfb
      go_wp2_with fail
      go_ret
      rw [show code = 30 from HCC.out]
      exact rn_same HH.out (Below.refl _ _) (by decide)
    | true =>
      have HFB := hid hfb
      clear hfb
      go_wp2_with fail
      refine (refd_find xd B cap lv L a w HH.out (by omega)).mono ?_
      rintro e w1 ⟨rfl, rfl⟩
      by_cases hf : findR L a < 0
      · have HCC : Hid (code = 31) := by show code = 31; rw [HC.out]; unfold rnE; rw [HFA.out, HFB.out, Bool.and_self, if_pos rfl, if_neg (by omega)]
        go_wp2_with fail
        go_ret
        rw [show code = 31 from HCC.out]
        exact rn_same HH.out (Below.refl _ _) (by decide)
      · have HCC : Hid (code = 0) := by show code = 0; rw [HC.out]; unfold rnE; rw [HFA.out, HFB.out, Bool.and_self, if_pos rfl, if_pos (by omega)]
        obtain ⟨i, hi, hfe, hnm⟩ := findR_at hf
        rw [hfe]
        have HNM := hid hnm
        clear hf hfe hnm
        obtain ⟨la, lc, hlv, hrow⟩ := HH.out.len
        have HLV := hid hlv
        rw [hlv] at HH
        obtain ⟨rb, ro, rfl, r0, r1, r2⟩ := row_fr hrow hi
        have hov := HH.out.bs L[i] (List.getElem_mem hi)
        obtain ⟨va, vc, hve, -, -, -, -⟩ := owns_bytes hov
        have HVE := hid hve
        rw [hve] at r1 hov
        have HOV := hid hov
        have x1 := HH.out.obj.cell 1 (.slice (some ⟨rb, ro, none⟩) L.length lc) rfl
        have HNX : Hid (∀ g, (Value.slice va L[i].b.length vc).ownBlock = some g → ¬ g = xd ∧ g < w.heap.size) := fun g e => by
          obtain ⟨cur, hc⟩ := own_typed hov e
          exact ⟨hc.ne_obj HH.out.obj (by decide), (own_lt hov g e).2⟩
        obtain ⟨fnm, hfnm⟩ : ∃ z, z = L[i].nm := ⟨_, rfl⟩
        obtain ⟨fbb, hfbb⟩ : ∃ z, z = L[i].b := ⟨_, rfl⟩
        obtain ⟨fsf, hfsf⟩ : ∃ z, z = L[i].safe := ⟨_, rfl⟩
        rw [← hfnm] at r0
        rw [← hfbb] at r1 HOV HNX HVE
        rw [← hfsf] at r2
        have HFBB := hid hfbb
        have HFSF := hid hfsf
        have hBw : B ≤ w.heap.size := by have := (HH.out.lt xd (.inl rfl)); omega
        clear hlv hrow hve hov hfnm hfbb hfsf
        go_upto_region 7 with fail
        have hb2 := below_new (w := w) (.cells #[.string ⟨fnm.toArray⟩, .slice va fbb.length vc, .int .i64 (fsf : Nat)] 43)
        have HX2 := hid (ObjAt.new w 43 #[.string ⟨fnm.toArray⟩, .slice va fbb.length vc, .int .i64 (fsf : Nat)])
        have HH2 := hid (HH.out.below hb2)
        have HB2 := hid hb2
        clear r0 r1 r2 x1 hb2
        generalize w.alloc (.cells #[.string ⟨fnm.toArray⟩, .slice va fbb.length vc, .int .i64 (fsf : Nat)] 43) = w2 at *
        obtain ⟨fb, hfb⟩ : ∃ z, z = w.heap.size := ⟨_, rfl⟩
        rw [← hfb] at HX2 ⊢
        have hfbl : w.heap.size ≤ fb := by omega
        have hfx : ¬ fb = xd := by have := HH.out.obj.lt; omega
        clear hfb
        go_wp2_with fail
        refine (refd_drop xd B cap _ L i w2 HH2.out hl hi).mono ?_
        rintro e w3 ⟨rfl, lv3, hd3, hf3, hk3⟩
        have HD3 := hid hd3
        have HK3 := hid ((KeptS.of_below (S := fun k => k = xd) HB2.out).next hk3)
        have HX3 := hid (HX2.out.keptS hk3 hfx)
        have HO3 := hid (own_keptS HOV.out HK3.out (fun g e => (HNX.out g e).1))
        have hl3 : (L.eraseIdx i).length ≤ L.length := by rw [List.length_eraseIdx]; split <;> omega
        have HFR3 : Hid (∀ k, lv3.ownBlock = some k → k ≠ fb) := fun k e => by have := hf3 k e; have := HX2.out.lt; omega
        clear hd3 hf3 hk3 HX2 HH2
        go_wp2_with fail
        refine (refd_find xd B cap lv3 (L.eraseIdx i) b w3 HD3.out (by omega)).mono ?_
        rintro e w4 ⟨rfl, rfl⟩
        by_cases hf2 : findR (L.eraseIdx i) b < 0
        · have HREL : Hid (∀ X, Rel L X → Rel (insR (L.eraseIdx i) ⟨b, .slice va fbb.length vc, fbb, fsf⟩) (putA (delA X a) (b, fbb, fsf))) := fun X r => by
            have r1 := r.drop hi HNM.out
            exact (r1.put (f := ⟨b, .slice va fbb.length vc, fbb, fsf⟩) (fun j hj e => find_erased r1.nodup hj e)).1 hf2
          have f0 := HX3.out.frozen 0
          have y0 := HX3.out.cell 0 (.string ⟨fnm.toArray⟩) rfl
          go_upto_region 12 with fail
          have HX5 : Hid (ObjAt (w3.setCell ⟨fb, 0, none⟩ (.string ⟨b.toArray⟩)) fb 43 #[.string ⟨b.toArray⟩, .slice va fbb.length vc, .int .i64 (fsf : Nat)]) := HX3.out.set 0 (.string ⟨b.toArray⟩)
          have hk5 : KeptS (fun k => k = fb) w3 (w3.setCell ⟨fb, 0, none⟩ (.string ⟨b.toArray⟩)) := KeptS.set w3 ⟨fb, 0, none⟩ (.string ⟨b.toArray⟩) rfl
          have HK5 := hid (HK3.out.trans hk5 (fun k hk e => by omega))
          have HO5 := hid (own_keptS HO3.out hk5 (fun g e => by have := (HNX.out g e).2; omega))
          have HD5 := hid (HD3.out.keptS hk5 (fun k hk e => by
            subst e
            rcases hk with e | e | ⟨x, hx, e⟩
            · exact hfx e
            · exact HFR3.out _ e rfl
            · obtain ⟨cur, hc⟩ := own_typed (HD3.out.bs x hx) e
              exact absurd rfl (hc.ne_obj HX3.out (by decide))))
          clear f0 y0 hk5 HX3 HD3 HK3 HO3
          generalize w3.setCell ⟨fb, 0, none⟩ (.string ⟨b.toArray⟩) = w5 at *
          have z0 := HX5.out.cell 0 (.string ⟨b.toArray⟩) rfl
          have z1 := HX5.out.cell 1 (.slice va fbb.length vc) rfl
          have z2 := HX5.out.cell 2 (.int .i64 (fsf : Nat)) rfl
          go_wp2_with fail
          refine (refd_lay xd B cap _ (L.eraseIdx i) ⟨b, .slice va fbb.length vc, fbb, fsf⟩ w5 HD5.out (by omega) HO5.out).mono ?_
          rintro e w6 ⟨rfl, lv6, hd6, hf6, hk6⟩
          have HD6 := hid hd6
          have HK6 := hid (HK5.out.next hk6)
          have HF6 : Hid (∀ k, lv6.ownBlock = some k → lv.ownBlock = some k ∨ w.heap.size ≤ k) := fun k e => .inr (Nat.le_trans HK5.out.size (hf6 k e))
          have HS6 : Hid (∀ x ∈ insR (L.eraseIdx i) ⟨b, .slice va fbb.length vc, fbb, fsf⟩, ∃ y ∈ L, x.v = y.v) := fun x hx => by
            rcases insR_mem hx with rfl | hx
            · exact ⟨L[i], List.getElem_mem hi, HVE.out.symm⟩
            · exact ⟨x, List.mem_of_mem_eraseIdx hx, rfl⟩
          clear hd6 hf6 hk6 z0 z1 z2
          go_wp2_with fail
          go_ret
          rw [show code = 0 from HCC.out]
          exact ⟨rfl, lv6, _, HD6.out, moved_xd HK6.out HF6.out HS6.out, fun h => absurd rfl h, fun _ => ⟨i, hi, HNM.out, fun X r => by rw [← HFBB.out, ← HFSF.out]; exact HREL.out X r⟩⟩
        · obtain ⟨j, hj, hfe2, hnm2⟩ := findR_at hf2
          have HREL : Hid (∀ X, Rel L X → Rel (insR ((L.eraseIdx i).eraseIdx j) ⟨b, .slice va fbb.length vc, fbb, fsf⟩) (putA (delA X a) (b, fbb, fsf))) := fun X r => by
            have r1 := r.drop hi HNM.out
            exact (r1.put (f := ⟨b, .slice va fbb.length vc, fbb, fsf⟩) (fun j hj e => find_erased r1.nodup hj e)).2 j hj hnm2
          rw [hfe2]
          clear hf2 hfe2 hnm2
          go_wp2_with fail
          refine (refd_drop xd B cap lv3 (L.eraseIdx i) j w3 HD3.out (by omega) hj).mono ?_
          rintro e w4 ⟨rfl, lv4, hd4, hf4, hk4⟩
          have HD4 := hid hd4
          have HK4 := hid (HK3.out.next hk4)
          have HX4 := hid (HX3.out.keptS hk4 hfx)
          have HO4 := hid (own_keptS HOV.out HK4.out (fun g e => (HNX.out g e).1))
          have hl4 : ((L.eraseIdx i).eraseIdx j).length ≤ L.length := by rw [List.length_eraseIdx]; split <;> omega
          have HFR4 : Hid (∀ k, lv4.ownBlock = some k → k ≠ fb) := fun k e => by have := hf4 k e; have := HX3.out.lt; omega
          clear hd4 hf4 hk4
          have f0 := HX4.out.frozen 0
          have y0 := HX4.out.cell 0 (.string ⟨fnm.toArray⟩) rfl
          go_upto_region 12 with fail
          have HX5 : Hid (ObjAt (w4.setCell ⟨fb, 0, none⟩ (.string ⟨b.toArray⟩)) fb 43 #[.string ⟨b.toArray⟩, .slice va fbb.length vc, .int .i64 (fsf : Nat)]) := HX4.out.set 0 (.string ⟨b.toArray⟩)
          have hk5 : KeptS (fun k => k = fb) w4 (w4.setCell ⟨fb, 0, none⟩ (.string ⟨b.toArray⟩)) := KeptS.set w4 ⟨fb, 0, none⟩ (.string ⟨b.toArray⟩) rfl
          have HK5 := hid (HK4.out.trans hk5 (fun k hk e => by omega))
          have HO5 := hid (own_keptS HO4.out hk5 (fun g e => by have := (HNX.out g e).2; omega))
          have HD5 := hid (HD4.out.keptS hk5 (fun k hk e => by
            subst e
            rcases hk with e | e | ⟨x, hx, e⟩
            · exact hfx e
            · exact HFR4.out _ e rfl
            · obtain ⟨cur, hc⟩ := own_typed (HD4.out.bs x hx) e
              exact absurd rfl (hc.ne_obj HX4.out (by decide))))
          clear f0 y0 hk5 HX4 HD4 HK4 HO4
          generalize w4.setCell ⟨fb, 0, none⟩ (.string ⟨b.toArray⟩) = w5 at *
          have z0 := HX5.out.cell 0 (.string ⟨b.toArray⟩) rfl
          have z1 := HX5.out.cell 1 (.slice va fbb.length vc) rfl
          have z2 := HX5.out.cell 2 (.int .i64 (fsf : Nat)) rfl
          go_wp2_with fail
          refine (refd_lay xd B cap _ ((L.eraseIdx i).eraseIdx j) ⟨b, .slice va fbb.length vc, fbb, fsf⟩ w5 HD5.out (by omega) HO5.out).mono ?_
          rintro e w6 ⟨rfl, lv6, hd6, hf6, hk6⟩
          have HD6 := hid hd6
          have HK6 := hid (HK5.out.next hk6)
          have HF6 : Hid (∀ k, lv6.ownBlock = some k → lv.ownBlock = some k ∨ w.heap.size ≤ k) := fun k e => .inr (Nat.le_trans HK5.out.size (hf6 k e))
          have HS6 : Hid (∀ x ∈ insR ((L.eraseIdx i).eraseIdx j) ⟨b, .slice va fbb.length vc, fbb, fsf⟩, ∃ y ∈ L, x.v = y.v) := fun x hx => by
            rcases insR_mem hx with rfl | hx
            · exact ⟨L[i], List.getElem_mem hi, HVE.out.symm⟩
            · exact ⟨x, List.mem_of_mem_eraseIdx (List.mem_of_mem_eraseIdx hx), rfl⟩
          clear hd6 hf6 hk6 z0 z1 z2
          go_wp2_with fail
          go_ret
          rw [show code = 0 from HCC.out]
          exact ⟨rfl, lv6, _, HD6.out, moved_xd HK6.out HF6.out HS6.out, fun h => absurd rfl h, fun _ => ⟨i, hi, HNM.out, fun X r => by rw [← HFBB.out, ← HFSF.out]; exact HREL.out X r⟩⟩
end Go.Proofs.Ytibhkkfbhbnmeaa
