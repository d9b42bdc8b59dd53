/-
  The document's disk: Crash.
-/
import Derived.Test.YtibhkkfbhbnmeaaDr7
namespace Go.Proofs.Ytibhkkfbhbnmeaa
open Go.RowKit
set_option maxRecDepth 20000
set_option linter.unusedVariables false

def k0N (cs : List Int) : Nat := match cs with
  | [] => 0
  | c :: _ => (max c 0).toNat
theorem keepN_k0 (cs : List Int) (loose : Nat) : keepN cs loose = min (k0N cs) loose := by
  cases cs with
  | nil => simp [keepN, k0N]
  | cons c cs => simp only [keepN, k0N]; omega
theorem flat_setAll : ∀ (L : List Fr) (i : Nat) (hi : i < L.length) (v : Value) (b : List UInt8) (s : Nat), (((L.flatMap frC).set (i * 3) (.string ⟨L[i].nm.toArray⟩)).set (i * 3 + 1) v).set (i * 3 + 2) (.int .i64 (s : Nat)) = (L.set i ⟨L[i].nm, v, b, s⟩).flatMap frC
  | [], i, hi, _, _, _ => by simp at hi
  | x :: L, 0, hi, v, b, s => by simp [frC]
  | x :: L, i + 1, hi, v, b, s => by
    have hi' : i < L.length := by simpa using hi
    have ih := flat_setAll L i hi' v b s
    rw [List.flatMap_cons, List.set_cons_succ, List.flatMap_cons]
    show (((frC x ++ L.flatMap frC).set ((i + 1) * 3) (.string ⟨L[i].nm.toArray⟩)).set ((i + 1) * 3 + 1) v).set ((i + 1) * 3 + 2) _ = frC x ++ (L.set i ⟨L[i].nm, v, b, s⟩).flatMap frC
    rw [List.set_append_right _ _ (by rw [frC_len]; omega), List.set_append_right _ _ (by rw [frC_len]; omega), List.set_append_right _ _ (by rw [frC_len]; omega), frC_len, show (i + 1) * 3 - 3 = i * 3 by omega, show (i + 1) * 3 + 1 - 3 = i * 3 + 1 by omega, show (i + 1) * 3 + 2 - 3 = i * 3 + 2 by omega, ih]

theorem sumR_set_le : ∀ (L : List Fr) (i : Nat) (hi : i < L.length) (x : Fr), x.b.length ≤ L[i].b.length → sumR (L.set i x) ≤ sumR L
  | [], i, hi, _, _ => by simp at hi
  | y :: L, 0, hi, x, h => by
    simp only [List.getElem_cons_zero] at h
    simp only [List.set_cons_zero, sumR, List.map_cons, List.sum_cons]; omega
  | y :: L, i + 1, hi, x, h => by
    have hi' : i < L.length := by simpa using hi
    have ih := sumR_set_le L i hi' x (by simpa using h)
    simp only [List.set_cons_succ, sumR, List.map_cons, List.sum_cons] at ih ⊢
    omega
theorem RfD.setAll {w : World} {xd B g c i base : Nat} {cap : Int} {L : List Fr} {v : Value} {b : List UInt8} {s : Nat} (h : RfD w xd cap B (.slice (some ⟨g, 0, none⟩) L.length c) L) (hi : i < L.length) (ho : w.ownsRow base 5 1 v b.length (b.map byt)) (hbase : B ≤ base) :
    RfD (((w.setCell ⟨g, i * 3, none⟩ (.string ⟨L[i].nm.toArray⟩)).setCell ⟨g, i * 3 + 1, none⟩ v).setCell ⟨g, i * 3 + 2, none⟩ (.int .i64 (s : Nat))) xd cap B (.slice (some ⟨g, 0, none⟩) L.length c) (L.set i ⟨L[i].nm, v, b, s⟩) ∧
    KeptS (fun k => k = g) w (((w.setCell ⟨g, i * 3, none⟩ (.string ⟨L[i].nm.toArray⟩)).setCell ⟨g, i * 3 + 1, none⟩ v).setCell ⟨g, i * 3 + 2, none⟩ (.int .i64 (s : Nat))) := by
  have hk : KeptS (fun k => k = g) w (((w.setCell ⟨g, i * 3, none⟩ (.string ⟨L[i].nm.toArray⟩)).setCell ⟨g, i * 3 + 1, none⟩ v).setCell ⟨g, i * 3 + 2, none⟩ (.int .i64 (s : Nat))) :=
    ((KeptS.set (S := fun k => k = g) w ⟨g, i * 3, none⟩ (.string ⟨L[i].nm.toArray⟩) rfl).next (KeptS.set (S := fun k => k = g) _ ⟨g, i * 3 + 1, none⟩ v rfl)).next (KeptS.set (S := fun k => k = g) _ ⟨g, i * 3 + 2, none⟩ (.int .i64 (s : Nat)) rfl)
  refine ⟨?_, hk⟩
  obtain ⟨cur, hcur⟩ := own_typed h.row (g := g) rfl
  have hrow := (((h.row.stored (i * 3) (.string ⟨L[i].nm.toArray⟩)).1.stored (i * 3 + 1) v).1.stored (i * 3 + 2) (.int .i64 (s : Nat))).1
  rw [flat_setAll L i hi v b s] at hrow
  have hlen : (L.set i ⟨L[i].nm, v, b, s⟩).length = L.length := List.length_set ..
  refine ⟨h.obj.keptS hk (h.obj.ne_obj hcur (by decide)), by rw [hlen]; exact hrow, fun y hy => ?_, h.bx⟩
  have hoff : ∀ {v2 : Value} {b2 : List UInt8} {base2 : Nat}, w.ownsRow base2 5 1 v2 b2.length (b2.map byt) → (((w.setCell ⟨g, i * 3, none⟩ (.string ⟨L[i].nm.toArray⟩)).setCell ⟨g, i * 3 + 1, none⟩ v).setCell ⟨g, i * 3 + 2, none⟩ (.int .i64 (s : Nat))).ownsRow base2 5 1 v2 b2.length (b2.map byt) := fun ho => own_keptS ho hk (fun k e => by
    obtain ⟨cc, hc⟩ := own_typed ho e
    exact hc.ne_obj hcur (by decide))
  rcases List.mem_or_eq_of_mem_set hy with hy | rfl
  · exact hoff (h.bs y hy)
  · exact owns_base (hoff ho) hbase
theorem crash_fin {w wr w5 : World} {xd B g lc i nn s2 : Nat} {cap : Int} {lv v : Value} {L L' : List Fr} {cuts cs : List Int} {fnm fbb : List UInt8} {fsf : Nat} {nv : Int} (hi : i < L'.length) (hll : L'.length = L.length) (hlv : lv = .slice (some ⟨g, 0, none⟩) L'.length lc) (hmv : RMoved w wr xd lv L lv L') (hb5 : Below wr.heap.size wr w5)
    (hd5 : RfD w5 xd cap B (.slice (some ⟨g, 0, none⟩) L'.length lc) L') (hfn : fnm = L'[i].nm) (hfb : fbb = L'[i].b) (hfs : fsf = L'[i].safe) (ho : w5.ownsRow s2 5 1 v (fbb.take nn).length ((fbb.take nn).map byt)) (hs2 : w.heap.size ≤ s2) (hB2 : B ≤ s2)
    (hnn : nn = fsf + keepN cs (fbb.length - fsf)) (hle : nn ≤ fbb.length) (hne : fsf ≠ fbb.length) (hnv : nv = (nn : Int)) (hnd : (L'.map Fr.nm).Nodup) (hnm : L'.map Fr.nm = L.map Fr.nm) (hcr : (absR L', cs) = crashN (absR L, cuts) ((L.map Fr.nm).take i)) (hnt : (L.map Fr.nm).take (i + 1) = (L.map Fr.nm).take i ++ [L'[i].nm])
    (hsa : ∀ x ∈ L', x.safe ≤ x.b.length) (hsu : sumR L' ≤ 1073741824) :
    ∃ L2 : List Fr, L2.length = L.length ∧ Hid (RfD ((((w5.setCell ⟨g, i * 3, none⟩ (.string ⟨fnm.toArray⟩)).setCell ⟨g, i * 3 + 1, none⟩ v).setCell ⟨g, i * 3 + 2, none⟩ (.int .i64 nv)).drew) xd cap B lv L2) ∧ Hid (RMoved w ((((w5.setCell ⟨g, i * 3, none⟩ (.string ⟨fnm.toArray⟩)).setCell ⟨g, i * 3 + 1, none⟩ v).setCell ⟨g, i * 3 + 2, none⟩ (.int .i64 nv)).drew) xd lv L lv L2) ∧
      Hid (L2.map Fr.nm = L.map Fr.nm) ∧ Hid ((absR L2, cs.tail) = crashN (absR L, cuts) ((L.map Fr.nm).take (i + 1))) ∧ Hid (∀ x ∈ L2, x.safe ≤ x.b.length) ∧ Hid (sumR L2 ≤ 1073741824) := by
  subst hnv hfn hfb hfs
  obtain ⟨h1, h2⟩ := hd5.setAll (s := nn) hi ho hB2
  have hlen : (L'.set i ⟨L'[i].nm, v, L'[i].b.take nn, nn⟩).length = L.length := by rw [List.length_set]; exact hll
  refine ⟨_, hlen, by rw [hlv]; exact h1.below (below_drewN' 1), ⟨fun k hk => ?_, ?_⟩, ?_, ?_, fun x hx => ?_, ?_⟩
  · rcases hk with rfl | e | ⟨y, hy, e⟩
    · exact .inl (.inl rfl)
    · exact .inl (.inr (.inl e))
    · rcases List.mem_or_eq_of_mem_set hy with hy | rfl
      · exact hmv.1 k (.inr (.inr ⟨y, hy, e⟩))
      · have := (own_lt ho k e).1
        exact .inr (by omega)
  · exact ((hmv.2.next (KeptS.of_below hb5)).next (h2.imp (fun k e => .inr (.inl (by rw [hlv, e]; rfl))))).next (KeptS.drewN _ 1)
  · show _ = _
    rw [names_set hi ⟨L'[i].nm, v, L'[i].b.take nn, nn⟩ rfl]; exact hnm
  · show _ = _
    rw [hnt, crashN_snoc, ← hcr, crash_cutR hnd hi hne v, ← hnn]
  · rcases List.mem_or_eq_of_mem_set hx with hx | rfl
    · exact hsa x hx
    · show nn ≤ (L'[i].b.take nn).length
      rw [List.length_take]; omega
  · exact Nat.le_trans (sumR_set_le L' i hi ⟨L'[i].nm, v, L'[i].b.take nn, nn⟩ (by show (L'[i].b.take nn).length ≤ _; rw [List.length_take]; omega)) hsu

set_option maxHeartbeats 4000000 in
theorem refd_crash (xd B : Nat) (cap : Int) (lv : Value) (L : List Fr) (a : Option Addr) (cuts : List Int) (c : Nat) (w : World) (h : RfD w xd cap B lv L) (hl : L.length ≤ 1048576) (hr : RowAt w a (cuts.map (Value.int .i64))) (hc : cuts.length ≤ 1048576) (hoff : ∀ ad, a = some ad → cuts ≠ [] → ad.block < B) (hsum : sumR L ≤ 1073741824) (hsafe : ∀ x ∈ L, x.safe ≤ x.b.length) (hnd : (L.map Fr.nm).Nodup) :
    Calls Try.prog 25 #[.pointer (some ⟨xd, 0, none⟩), .slice a cuts.length c] w fun e w' => e = .returned (.tuple #[]) ∧ ∃ L', RfD w' xd cap B lv L' ∧ RMoved w w' xd lv L lv L' ∧ L'.length = L.length ∧ ∀ X, Rel L X → Rel L' (crashA X cuts) := by
  have HH := hid h
  have HR := hid hr
  have HOF := hid hoff
  have HSF := hid hsafe
  have HND := hid hnd
  clear h hr hoff hsafe hnd
  go_enter Try.func25, Try.ntmps25
  go_wp2_with fail
  go_loopw [4, 5] (fun s4 s5 wr => ∃ (i k : Nat) (L' : List Fr), s4 = .int .i64 k ∧ s5 = .int .i64 i ∧ i ≤ L.length ∧ k ≤ i ∧ L'.length = L.length ∧ Hid (RfD wr xd cap B lv L') ∧ Hid (RMoved w wr xd lv L lv L') ∧ Hid (L'.map Fr.nm = L.map Fr.nm) ∧ Hid ((absR L', cuts.drop k) = crashN (absR L, cuts) ((L.map Fr.nm).take i)) ∧ Hid (∀ x ∈ L', x.safe ≤ x.b.length) ∧ Hid (sumR L' ≤ 1073741824)) (fun _ s5 _ => L.length - (intOf s5).toNat)
  case atStart => exact ⟨0, 0, L, rfl, rfl, Nat.zero_le _, Nat.le_refl _, rfl, HH.out, ⟨fun k hk => .inl hk, KeptS.refl _ _⟩, rfl, rfl, HSF.out, hsum⟩
  case round =>
    obtain ⟨i, k, L', rfl, rfl, hi, hki, hll, HD, HMV, HNM, HCR, HSA, HSU⟩ := hrel
    obtain ⟨la, lc, hlv, hrow⟩ := HD.out.len
    have HLV := hid hlv
    rw [hlv] at HD
    have HDx := hid HD.out.obj
    have x1 := HD.out.obj.cell 1 (.slice la L'.length lc) rfl
    rw [hll] at x1
    by_cases hlt : i < L.length
    · have hil : i < L'.length := by omega
      obtain ⟨g, hga, -, hgl⟩ := own_some HD.out.row (by omega : 0 < L'.length)
      subst hga
      obtain ⟨va, vc, hve, hvrow, -, hv1, hv2⟩ := owns_bytes (HD.out.bs L'[i] (List.getElem_mem hil))
      have HVE := hid hve
      have hc0 : wr.cell? ⟨g, i * 3, none⟩ = some (.string ⟨L'[i].nm.toArray⟩) := by
        have := HD.out.row.cellAt (i * 3) (by omega)
        rw [this, show i * 3 = i * 3 + 0 by omega, flat_cell frC 3 frC_len L' i 0 hil (by decide)]; rfl
      have hc1 : wr.cell? ⟨g, i * 3 + 1, none⟩ = some L'[i].v := by
        rw [HD.out.row.cellAt (i * 3 + 1) (by omega), flat_cell frC 3 frC_len L' i 1 hil (by decide)]; rfl
      have hc2 : wr.cell? ⟨g, i * 3 + 2, none⟩ = some (.int .i64 (L'[i].safe : Nat)) := by
        rw [HD.out.row.cellAt (i * 3 + 2) (by omega), flat_cell frC 3 frC_len L' i 2 hil (by decide)]; rfl
      rw [hve] at hc1
      have hsl := HSA.out L'[i] (List.getElem_mem hil)
      have hbl : L'[i].b.length ≤ 1073741824 := by
        have h1 := sumR_take_le L' (i + 1)
        rw [sumR_take_succ L' i hil] at h1
        have := HSU.out
        omega
      have HNDL : Hid ((L'.map Fr.nm).Nodup) := by show List.Nodup _; rw [HNM.out]; exact HND.out
      have HNT : Hid ((L.map Fr.nm).take (i + 1) = (L.map Fr.nm).take i ++ [L'[i].nm]) := by
        show _ = _
        rw [← HNM.out, List.take_succ_eq_append_getElem (by simpa using hil), List.getElem_map]
      obtain ⟨fnm, hfnm⟩ : ∃ z, z = L'[i].nm := ⟨_, rfl⟩
      obtain ⟨fbb, hfbb⟩ : ∃ z, z = L'[i].b := ⟨_, rfl⟩
      obtain ⟨fsf, hfsf⟩ : ∃ z, z = L'[i].safe := ⟨_, rfl⟩
      rw [← hfnm] at hc0
      rw [← hfbb] at hc1 hbl hsl hv1 hvrow
      rw [← hfsf] at hc2 hsl
      have HFN := hid hfnm
      have HFB := hid hfbb
      have HFS := hid hfsf
      have HVR := hid hvrow
      clear hve hvrow hfnm hfbb hfsf hrow hlv
      go_upto_region 5 with fail
      have hb2 := below_new (w := wr) (.cells #[.string ⟨fnm.toArray⟩, .slice va fbb.length vc, .int .i64 (fsf : Nat)] 43)
      have HX2 := hid (ObjAt.new wr 43 #[.string ⟨fnm.toArray⟩, .slice va fbb.length vc, .int .i64 (fsf : Nat)])
      have HD2 := hid (HD.out.below hb2)
      have HB2 := hid hb2
      clear hc0 hc1 hc2 x1 hb2
      generalize wr.alloc (.cells #[.string ⟨fnm.toArray⟩, .slice va fbb.length vc, .int .i64 (fsf : Nat)] 43) = w2 at *
      obtain ⟨fb, hfb⟩ : ∃ z, z = wr.heap.size := ⟨_, rfl⟩
      rw [← hfb] at HX2 ⊢
      have HFBW := hid hfb
      clear hfb
      have y1 := HX2.out.cell 1 (.slice va fbb.length vc) rfl
      have y2 := HX2.out.cell 2 (.int .i64 (fsf : Nat)) rfl
      by_cases he : fsf = fbb.length
      · have HSM : Hid (crash1 (absR L', cuts.drop k) L'[i].nm = (absR L', cuts.drop k)) := crash_sameR HNDL.out hil (by rw [← HFS.out, ← HFB.out, he])
        have HCR2 : Hid ((absR L', cuts.drop k) = crashN (absR L, cuts) ((L.map Fr.nm).take (i + 1))) := by
          show _ = _
          rw [HNT.out, crashN_snoc, ← HCR.out, HSM.out]
        have HD3 : Hid (RfD w2 xd cap B lv L') := by show RfD _ _ _ _ _ _; rw [HLV.out]; exact HD2.out
        have HM3 : Hid (RMoved w w2 xd lv L lv L') := ⟨HMV.out.1, HMV.out.2.next (KeptS.of_below HB2.out)⟩
        subst he
        clear HX2 HD2 HD HCR
        go_wp2_with fail
        go_roundw
        case rel => exact ⟨i + 1, k, L', rfl, by go_num, by omega, by omega, hll, HD3.out, HM3.out, HNM.out, HCR2.out, HSA.out, HSU.out⟩
        case measure => simp [intOf]; omega
      · have HNE := hid he
        have hneb : ((fsf : Int) == (fbb.length : Int)) = false := beq_eq_false_iff_ne.2 (by omega)
        have hne2 : (fsf == fbb.length) = false := beq_eq_false_iff_ne.2 he
        have hlo : fsf < fbb.length := by omega
        clear he
        obtain ⟨K, hK⟩ : ∃ K, K = keepN (cuts.drop k) (fbb.length - fsf) := ⟨_, rfl⟩
        have hk0 : K = min (k0N (cuts.drop k)) (fbb.length - fsf) := by rw [hK]; exact keepN_k0 _ _
        have HK := hid hK
        have HVNN : Hid (va = none → fbb.length = 0) := fun e => by
          have := HVR.out; rw [e] at this
          have := this.none
          simpa using this
        clear hK
        by_cases hkc : k < cuts.length
        · have hRw : RowAt wr a (cuts.map (Value.int .i64)) := HR.out.keptS HMV.out.2 (fun ad e hh => by
            have h1 := HOF.out ad e (by intro h; rw [h] at hkc; simp at hkc)
            have h2 := (HH.out.lt _ hh).1
            omega)
          obtain ⟨cb, co, rfl, hcz⟩ := (hRw.below HB2.out).at k (by simpa using hkc)
          rw [List.getElem_map] at hcz
          rw [List.drop_eq_getElem_cons hkc] at hk0
          have hdz : K = min (max cuts[k] 0).toNat (fbb.length - fsf) := hk0
          clear hRw hk0
          generalize cuts[k] = z at *
          by_cases hz0 : 0 < z
          · by_cases hgt : (fbb.length : Int) - fsf < z
            · have hval : (fbb.length : Int) - (fsf : Int) = (K : Int) := by omega
              have hKl : fsf + K ≤ fbb.length := by omega
              clear hdz
              go_upto_region 11 with fail
              (try rw [hval])
              clear hval hgt hz0 hcz
              go_wp2_with fail
              have HIT : Hid (IsBytes w2 (.slice va (fsf + K) vc) (fbb.take (fsf + K))) := ⟨va, vc, by rw [List.length_take, Nat.min_eq_left (by omega)], by rw [List.map_take]; exact (HVR.out.below HB2.out).take _, fun e => by subst e; exact Nat.eq_zero_of_le_zero (by have := HVNN.out rfl; omega), by rw [List.length_take]; omega, hv2⟩
              refine (ref_copy _ (fbb.take (fsf + K)) w2 HIT.out (by rw [List.length_take]; omega)).mono ?_
              rintro e w3 ⟨v, rfl, hov, hb3⟩
              have hln : (fbb.take (fsf + K)).length = (fsf + K) := by rw [List.length_take]; omega
              obtain ⟨va3, vc3, rfl, -, -⟩ := owns_row hov
              have HOV := hid hov
              rw [hln]
              have HX3 := hid (HX2.out.below hb3)
              have HD3 := hid (HD2.out.below hb3)
              have HB3 := hid (HB2.out.trans (hb3.mono HB2.out.size))
              have HLN := hid hln
              clear hov hb3 hln y1 y2 HX2 HD2
              have y1 := HX3.out.cell 1 (.slice va fbb.length vc) rfl
              have g1 := HX3.out.frozen 1
              go_upto_region 13 with fail
              have HX4 : Hid (ObjAt (w3.setCell ⟨fb, 1, none⟩ (.slice va3 (fsf + K) vc3)) fb 43 #[.string ⟨fnm.toArray⟩, .slice va3 (fsf + K) vc3, .int .i64 (fsf : Nat)]) := HX3.out.set 1 (.slice va3 (fsf + K) vc3)
              have z1 := HX4.out.cell 1 (.slice va3 (fsf + K) vc3) rfl
              have z2 := HX4.out.cell 2 (.int .i64 (fsf : Nat)) rfl
              have g2 := HX4.out.frozen 2
              go_upto_region 14 with fail
              have HX5 : Hid (ObjAt ((w3.setCell ⟨fb, 1, none⟩ (.slice va3 (fsf + K) vc3)).setCell ⟨fb, 2, none⟩ (.int .i64 ((fsf : Int) + (K : Int)))) fb 43 #[.string ⟨fnm.toArray⟩, .slice va3 (fsf + K) vc3, .int .i64 ((fsf : Int) + (K : Int))]) := HX4.out.set 2 (.int .i64 ((fsf : Int) + (K : Int)))
              have hkS : KeptS (fun q => q = fb) w3 ((w3.setCell ⟨fb, 1, none⟩ (.slice va3 (fsf + K) vc3)).setCell ⟨fb, 2, none⟩ (.int .i64 ((fsf : Int) + (K : Int)))) := (KeptS.set (S := fun q => q = fb) w3 ⟨fb, 1, none⟩ (.slice va3 (fsf + K) vc3) rfl).next (KeptS.set (S := fun q => q = fb) _ ⟨fb, 2, none⟩ (.int .i64 ((fsf : Int) + (K : Int))) rfl)
              have hB5 : Below wr.heap.size wr ((w3.setCell ⟨fb, 1, none⟩ (.slice va3 (fsf + K) vc3)).setCell ⟨fb, 2, none⟩ (.int .i64 ((fsf : Int) + (K : Int)))) := HB3.out.trans (hkS.below (fun q e => by have := HFBW.out; omega) HB3.out.size)
              have HO5 := hid (own_keptS HOV.out hkS (fun q e => by
                obtain ⟨cc, hc⟩ := own_typed HOV.out e
                exact hc.ne_obj HX3.out (by decide)))
              have HB5 := hid hB5
              have HO7 := hid (own_keptS HOV.out hkS (fun q e => by
                obtain ⟨cc, hc⟩ := own_typed HOV.out e
                exact hc.ne_obj HX3.out (by decide)))
              have HSW : Hid (w.heap.size ≤ w2.heap.size) := Nat.le_trans HMV.out.2.size HB2.out.size
              have HBW : Hid (B ≤ w2.heap.size) := by have := (HH.out.lt xd (.inl rfl)); have := HMV.out.2.size; have := HB2.out.size; show B ≤ _; omega
              have HD5 := hid (HD.out.below hB5)
              clear y1 g1 z1 z2 g2 hkS hB5 HX3 HX4 HD3 HB3 HOV
              generalize (w3.setCell ⟨fb, 1, none⟩ (.slice va3 (fsf + K) vc3)).setCell ⟨fb, 2, none⟩ (.int .i64 ((fsf : Int) + (K : Int))) = w5 at *
              have u0 := HX5.out.cell 0 (.string ⟨fnm.toArray⟩) rfl
              have u1 := HX5.out.cell 1 (.slice va3 (fsf + K) vc3) rfl
              have u2 := HX5.out.cell 2 (.int .i64 ((fsf : Int) + (K : Int))) rfl
              have x1 := HD5.out.obj.cell 1 (.slice (some ⟨g, 0, none⟩) L'.length lc) rfl
              rw [hll] at x1
              have hc0 : w5.cell? ⟨g, i * 3, none⟩ = some (.string ⟨L'[i].nm.toArray⟩) := by
                have := HD5.out.row.cellAt (i * 3) (by omega)
                rw [this, show i * 3 = i * 3 + 0 by omega, flat_cell frC 3 frC_len L' i 0 hil (by decide)]; rfl
              have hc1 : w5.cell? ⟨g, i * 3 + 1, none⟩ = some L'[i].v := by
                rw [HD5.out.row.cellAt (i * 3 + 1) (by omega), flat_cell frC 3 frC_len L' i 1 hil (by decide)]; rfl
              have hc2 : w5.cell? ⟨g, i * 3 + 2, none⟩ = some (.int .i64 (L'[i].safe : Nat)) := by
                rw [HD5.out.row.cellAt (i * 3 + 2) (by omega), flat_cell frC 3 frC_len L' i 2 hil (by decide)]; rfl
              have hz0 := HD5.out.row.frozenAt (i * 3)
              have hz1 := HD5.out.row.frozenAt (i * 3 + 1)
              have hz2 := HD5.out.row.frozenAt (i * 3 + 2)
              go_region
              all_goals
                obtain ⟨L2, hl2, HD7, HM7, HN7, HC7, HS7, HU7⟩ := crash_fin (nn := (fsf + K)) (nv := ((fsf : Int) + (K : Int))) (v := .slice va3 (fsf + K) vc3) hil hll HLV.out HMV.out HB5.out HD5.out HFN.out HFB.out HFS.out (by have := HO7.out; rw [HLN.out] at this ⊢; exact this) HSW.out HBW.out (by rw [HK.out]) (by omega) HNE.out (by omega) HNDL.out HNM.out HCR.out HNT.out HSA.out HSU.out
                rw [List.tail_drop] at HC7
                clear hc0 hc1 hc2 hz0 hz1 hz2 u0 u1 u2 x1
                go_wp2_with fail
                go_roundw
                case rel => exact ⟨i + 1, k + 1, L2, by go_num, by go_num, by omega, by omega, hl2, HD7.out, HM7.out, HN7.out, HC7.out, HS7.out, HU7.out⟩
                case measure => simp [intOf]; omega
            · have hval : z = (K : Int) := by omega
              have hKl : fsf + K ≤ fbb.length := by omega
              clear hdz
              go_upto_region 11 with fail
              subst hval
              clear hgt hz0 hcz
              go_wp2_with fail
              have HIT : Hid (IsBytes w2 (.slice va (fsf + K) vc) (fbb.take (fsf + K))) := ⟨va, vc, by rw [List.length_take, Nat.min_eq_left (by omega)], by rw [List.map_take]; exact (HVR.out.below HB2.out).take _, fun e => by subst e; exact Nat.eq_zero_of_le_zero (by have := HVNN.out rfl; omega), by rw [List.length_take]; omega, hv2⟩
              refine (ref_copy _ (fbb.take (fsf + K)) w2 HIT.out (by rw [List.length_take]; omega)).mono ?_
              rintro e w3 ⟨v, rfl, hov, hb3⟩
              have hln : (fbb.take (fsf + K)).length = (fsf + K) := by rw [List.length_take]; omega
              obtain ⟨va3, vc3, rfl, -, -⟩ := owns_row hov
              have HOV := hid hov
              rw [hln]
              have HX3 := hid (HX2.out.below hb3)
              have HD3 := hid (HD2.out.below hb3)
              have HB3 := hid (HB2.out.trans (hb3.mono HB2.out.size))
              have HLN := hid hln
              clear hov hb3 hln y1 y2 HX2 HD2
              have y1 := HX3.out.cell 1 (.slice va fbb.length vc) rfl
              have g1 := HX3.out.frozen 1
              go_upto_region 13 with fail
              have HX4 : Hid (ObjAt (w3.setCell ⟨fb, 1, none⟩ (.slice va3 (fsf + K) vc3)) fb 43 #[.string ⟨fnm.toArray⟩, .slice va3 (fsf + K) vc3, .int .i64 (fsf : Nat)]) := HX3.out.set 1 (.slice va3 (fsf + K) vc3)
              have z1 := HX4.out.cell 1 (.slice va3 (fsf + K) vc3) rfl
              have z2 := HX4.out.cell 2 (.int .i64 (fsf : Nat)) rfl
              have g2 := HX4.out.frozen 2
              go_upto_region 14 with fail
              have HX5 : Hid (ObjAt ((w3.setCell ⟨fb, 1, none⟩ (.slice va3 (fsf + K) vc3)).setCell ⟨fb, 2, none⟩ (.int .i64 ((fsf : Int) + (K : Int)))) fb 43 #[.string ⟨fnm.toArray⟩, .slice va3 (fsf + K) vc3, .int .i64 ((fsf : Int) + (K : Int))]) := HX4.out.set 2 (.int .i64 ((fsf : Int) + (K : Int)))
              have hkS : KeptS (fun q => q = fb) w3 ((w3.setCell ⟨fb, 1, none⟩ (.slice va3 (fsf + K) vc3)).setCell ⟨fb, 2, none⟩ (.int .i64 ((fsf : Int) + (K : Int)))) := (KeptS.set (S := fun q => q = fb) w3 ⟨fb, 1, none⟩ (.slice va3 (fsf + K) vc3) rfl).next (KeptS.set (S := fun q => q = fb) _ ⟨fb, 2, none⟩ (.int .i64 ((fsf : Int) + (K : Int))) rfl)
              have hB5 : Below wr.heap.size wr ((w3.setCell ⟨fb, 1, none⟩ (.slice va3 (fsf + K) vc3)).setCell ⟨fb, 2, none⟩ (.int .i64 ((fsf : Int) + (K : Int)))) := HB3.out.trans (hkS.below (fun q e => by have := HFBW.out; omega) HB3.out.size)
              have HO5 := hid (own_keptS HOV.out hkS (fun q e => by
                obtain ⟨cc, hc⟩ := own_typed HOV.out e
                exact hc.ne_obj HX3.out (by decide)))
              have HB5 := hid hB5
              have HO7 := hid (own_keptS HOV.out hkS (fun q e => by
                obtain ⟨cc, hc⟩ := own_typed HOV.out e
                exact hc.ne_obj HX3.out (by decide)))
              have HSW : Hid (w.heap.size ≤ w2.heap.size) := Nat.le_trans HMV.out.2.size HB2.out.size
              have HBW : Hid (B ≤ w2.heap.size) := by have := (HH.out.lt xd (.inl rfl)); have := HMV.out.2.size; have := HB2.out.size; show B ≤ _; omega
              have HD5 := hid (HD.out.below hB5)
              clear y1 g1 z1 z2 g2 hkS hB5 HX3 HX4 HD3 HB3 HOV
              generalize (w3.setCell ⟨fb, 1, none⟩ (.slice va3 (fsf + K) vc3)).setCell ⟨fb, 2, none⟩ (.int .i64 ((fsf : Int) + (K : Int))) = w5 at *
              have u0 := HX5.out.cell 0 (.string ⟨fnm.toArray⟩) rfl
              have u1 := HX5.out.cell 1 (.slice va3 (fsf + K) vc3) rfl
              have u2 := HX5.out.cell 2 (.int .i64 ((fsf : Int) + (K : Int))) rfl
              have x1 := HD5.out.obj.cell 1 (.slice (some ⟨g, 0, none⟩) L'.length lc) rfl
              rw [hll] at x1
              have hc0 : w5.cell? ⟨g, i * 3, none⟩ = some (.string ⟨L'[i].nm.toArray⟩) := by
                have := HD5.out.row.cellAt (i * 3) (by omega)
                rw [this, show i * 3 = i * 3 + 0 by omega, flat_cell frC 3 frC_len L' i 0 hil (by decide)]; rfl
              have hc1 : w5.cell? ⟨g, i * 3 + 1, none⟩ = some L'[i].v := by
                rw [HD5.out.row.cellAt (i * 3 + 1) (by omega), flat_cell frC 3 frC_len L' i 1 hil (by decide)]; rfl
              have hc2 : w5.cell? ⟨g, i * 3 + 2, none⟩ = some (.int .i64 (L'[i].safe : Nat)) := by
                rw [HD5.out.row.cellAt (i * 3 + 2) (by omega), flat_cell frC 3 frC_len L' i 2 hil (by decide)]; rfl
              have hz0 := HD5.out.row.frozenAt (i * 3)
              have hz1 := HD5.out.row.frozenAt (i * 3 + 1)
              have hz2 := HD5.out.row.frozenAt (i * 3 + 2)
              go_region
              all_goals
                obtain ⟨L2, hl2, HD7, HM7, HN7, HC7, HS7, HU7⟩ := crash_fin (nn := (fsf + K)) (nv := ((fsf : Int) + (K : Int))) (v := .slice va3 (fsf + K) vc3) hil hll HLV.out HMV.out HB5.out HD5.out HFN.out HFB.out HFS.out (by have := HO7.out; rw [HLN.out] at this ⊢; exact this) HSW.out HBW.out (by rw [HK.out]) (by omega) HNE.out (by omega) HNDL.out HNM.out HCR.out HNT.out HSA.out HSU.out
                rw [List.tail_drop] at HC7
                clear hc0 hc1 hc2 hz0 hz1 hz2 u0 u1 u2 x1
                go_wp2_with fail
                go_roundw
                case rel => exact ⟨i + 1, k + 1, L2, by go_num, by go_num, by omega, by omega, hl2, HD7.out, HM7.out, HN7.out, HC7.out, HS7.out, HU7.out⟩
                case measure => simp [intOf]; omega
          · have hK0 : K = 0 := by omega
            clear hdz
            go_upto_region 11 with fail
            clear hz0 hcz
            go_wp2_with fail
            have HIT : Hid (IsBytes w2 (.slice va fsf vc) (fbb.take fsf)) := ⟨va, vc, by rw [List.length_take, Nat.min_eq_left (by omega)], by rw [List.map_take]; exact (HVR.out.below HB2.out).take _, fun e => by subst e; exact Nat.eq_zero_of_le_zero (by have := HVNN.out rfl; omega), by rw [List.length_take]; omega, hv2⟩
            refine (ref_copy _ (fbb.take fsf) w2 HIT.out (by rw [List.length_take]; omega)).mono ?_
            rintro e w3 ⟨v, rfl, hov, hb3⟩
            have hln : (fbb.take fsf).length = fsf := by rw [List.length_take]; omega
            obtain ⟨va3, vc3, rfl, -, -⟩ := owns_row hov
            have HOV := hid hov
            rw [hln]
            have HX3 := hid (HX2.out.below hb3)
            have HD3 := hid (HD2.out.below hb3)
            have HB3 := hid (HB2.out.trans (hb3.mono HB2.out.size))
            have HLN := hid hln
            clear hov hb3 hln y1 y2 HX2 HD2
            have y1 := HX3.out.cell 1 (.slice va fbb.length vc) rfl
            have g1 := HX3.out.frozen 1
            go_upto_region 13 with fail
            have HX4 : Hid (ObjAt (w3.setCell ⟨fb, 1, none⟩ (.slice va3 fsf vc3)) fb 43 #[.string ⟨fnm.toArray⟩, .slice va3 fsf vc3, .int .i64 (fsf : Nat)]) := HX3.out.set 1 (.slice va3 fsf vc3)
            have z1 := HX4.out.cell 1 (.slice va3 fsf vc3) rfl
            have z2 := HX4.out.cell 2 (.int .i64 (fsf : Nat)) rfl
            have g2 := HX4.out.frozen 2
            go_upto_region 14 with fail
            have HX5 : Hid (ObjAt ((w3.setCell ⟨fb, 1, none⟩ (.slice va3 fsf vc3)).setCell ⟨fb, 2, none⟩ (.int .i64 (fsf : Nat))) fb 43 #[.string ⟨fnm.toArray⟩, .slice va3 fsf vc3, .int .i64 (fsf : Nat)]) := HX4.out.set 2 (.int .i64 (fsf : Nat))
            have hkS : KeptS (fun q => q = fb) w3 ((w3.setCell ⟨fb, 1, none⟩ (.slice va3 fsf vc3)).setCell ⟨fb, 2, none⟩ (.int .i64 (fsf : Nat))) := (KeptS.set (S := fun q => q = fb) w3 ⟨fb, 1, none⟩ (.slice va3 fsf vc3) rfl).next (KeptS.set (S := fun q => q = fb) _ ⟨fb, 2, none⟩ (.int .i64 (fsf : Nat)) rfl)
            have hB5 : Below wr.heap.size wr ((w3.setCell ⟨fb, 1, none⟩ (.slice va3 fsf vc3)).setCell ⟨fb, 2, none⟩ (.int .i64 (fsf : Nat))) := HB3.out.trans (hkS.below (fun q e => by have := HFBW.out; omega) HB3.out.size)
            have HO5 := hid (own_keptS HOV.out hkS (fun q e => by
              obtain ⟨cc, hc⟩ := own_typed HOV.out e
              exact hc.ne_obj HX3.out (by decide)))
            have HB5 := hid hB5
            have HO7 := hid (own_keptS HOV.out hkS (fun q e => by
              obtain ⟨cc, hc⟩ := own_typed HOV.out e
              exact hc.ne_obj HX3.out (by decide)))
            have HSW : Hid (w.heap.size ≤ w2.heap.size) := Nat.le_trans HMV.out.2.size HB2.out.size
            have HBW : Hid (B ≤ w2.heap.size) := by have := (HH.out.lt xd (.inl rfl)); have := HMV.out.2.size; have := HB2.out.size; show B ≤ _; omega
            have HD5 := hid (HD.out.below hB5)
            clear y1 g1 z1 z2 g2 hkS hB5 HX3 HX4 HD3 HB3 HOV
            generalize (w3.setCell ⟨fb, 1, none⟩ (.slice va3 fsf vc3)).setCell ⟨fb, 2, none⟩ (.int .i64 (fsf : Nat)) = w5 at *
            have u0 := HX5.out.cell 0 (.string ⟨fnm.toArray⟩) rfl
            have u1 := HX5.out.cell 1 (.slice va3 fsf vc3) rfl
            have u2 := HX5.out.cell 2 (.int .i64 (fsf : Nat)) rfl
            have x1 := HD5.out.obj.cell 1 (.slice (some ⟨g, 0, none⟩) L'.length lc) rfl
            rw [hll] at x1
            have hc0 : w5.cell? ⟨g, i * 3, none⟩ = some (.string ⟨L'[i].nm.toArray⟩) := by
              have := HD5.out.row.cellAt (i * 3) (by omega)
              rw [this, show i * 3 = i * 3 + 0 by omega, flat_cell frC 3 frC_len L' i 0 hil (by decide)]; rfl
            have hc1 : w5.cell? ⟨g, i * 3 + 1, none⟩ = some L'[i].v := by
              rw [HD5.out.row.cellAt (i * 3 + 1) (by omega), flat_cell frC 3 frC_len L' i 1 hil (by decide)]; rfl
            have hc2 : w5.cell? ⟨g, i * 3 + 2, none⟩ = some (.int .i64 (L'[i].safe : Nat)) := by
              rw [HD5.out.row.cellAt (i * 3 + 2) (by omega), flat_cell frC 3 frC_len L' i 2 hil (by decide)]; rfl
            have hz0 := HD5.out.row.frozenAt (i * 3)
            have hz1 := HD5.out.row.frozenAt (i * 3 + 1)
            have hz2 := HD5.out.row.frozenAt (i * 3 + 2)
            go_region
            all_goals
              obtain ⟨L2, hl2, HD7, HM7, HN7, HC7, HS7, HU7⟩ := crash_fin (nn := fsf) (nv := (fsf : Nat)) (v := .slice va3 fsf vc3) hil hll HLV.out HMV.out HB5.out HD5.out HFN.out HFB.out HFS.out (by have := HO7.out; rw [HLN.out] at this ⊢; exact this) HSW.out HBW.out (by have := HK.out; omega) (by omega) HNE.out (by omega) HNDL.out HNM.out HCR.out HNT.out HSA.out HSU.out
              rw [List.tail_drop] at HC7
              clear hc0 hc1 hc2 hz0 hz1 hz2 u0 u1 u2 x1
              go_wp2_with fail
              go_roundw
              case rel => exact ⟨i + 1, k + 1, L2, by go_num, by go_num, by omega, by omega, hl2, HD7.out, HM7.out, HN7.out, HC7.out, HS7.out, HU7.out⟩
              case measure => simp [intOf]; omega
        · rw [List.drop_of_length_le (by omega)] at hk0
          have hK0 : K = 0 := by rw [hk0]; simp [k0N]
          clear hk0
          go_upto_region 11 with fail
          go_wp2_with fail
          have HIT : Hid (IsBytes w2 (.slice va fsf vc) (fbb.take fsf)) := ⟨va, vc, by rw [List.length_take, Nat.min_eq_left (by omega)], by rw [List.map_take]; exact (HVR.out.below HB2.out).take _, fun e => by subst e; exact Nat.eq_zero_of_le_zero (by have := HVNN.out rfl; omega), by rw [List.length_take]; omega, hv2⟩
          refine (ref_copy _ (fbb.take fsf) w2 HIT.out (by rw [List.length_take]; omega)).mono ?_
          rintro e w3 ⟨v, rfl, hov, hb3⟩
          have hln : (fbb.take fsf).length = fsf := by rw [List.length_take]; omega
          obtain ⟨va3, vc3, rfl, -, -⟩ := owns_row hov
          have HOV := hid hov
          rw [hln]
          have HX3 := hid (HX2.out.below hb3)
          have HD3 := hid (HD2.out.below hb3)
          have HB3 := hid (HB2.out.trans (hb3.mono HB2.out.size))
          have HLN := hid hln
          clear hov hb3 hln y1 y2 HX2 HD2
          have y1 := HX3.out.cell 1 (.slice va fbb.length vc) rfl
          have g1 := HX3.out.frozen 1
          go_upto_region 13 with fail
          have HX4 : Hid (ObjAt (w3.setCell ⟨fb, 1, none⟩ (.slice va3 fsf vc3)) fb 43 #[.string ⟨fnm.toArray⟩, .slice va3 fsf vc3, .int .i64 (fsf : Nat)]) := HX3.out.set 1 (.slice va3 fsf vc3)
          have z1 := HX4.out.cell 1 (.slice va3 fsf vc3) rfl
          have z2 := HX4.out.cell 2 (.int .i64 (fsf : Nat)) rfl
          have g2 := HX4.out.frozen 2
          go_upto_region 14 with fail
          have HX5 : Hid (ObjAt ((w3.setCell ⟨fb, 1, none⟩ (.slice va3 fsf vc3)).setCell ⟨fb, 2, none⟩ (.int .i64 (fsf : Nat))) fb 43 #[.string ⟨fnm.toArray⟩, .slice va3 fsf vc3, .int .i64 (fsf : Nat)]) := HX4.out.set 2 (.int .i64 (fsf : Nat))
          have hkS : KeptS (fun q => q = fb) w3 ((w3.setCell ⟨fb, 1, none⟩ (.slice va3 fsf vc3)).setCell ⟨fb, 2, none⟩ (.int .i64 (fsf : Nat))) := (KeptS.set (S := fun q => q = fb) w3 ⟨fb, 1, none⟩ (.slice va3 fsf vc3) rfl).next (KeptS.set (S := fun q => q = fb) _ ⟨fb, 2, none⟩ (.int .i64 (fsf : Nat)) rfl)
          have hB5 : Below wr.heap.size wr ((w3.setCell ⟨fb, 1, none⟩ (.slice va3 fsf vc3)).setCell ⟨fb, 2, none⟩ (.int .i64 (fsf : Nat))) := HB3.out.trans (hkS.below (fun q e => by have := HFBW.out; omega) HB3.out.size)
          have HO5 := hid (own_keptS HOV.out hkS (fun q e => by
            obtain ⟨cc, hc⟩ := own_typed HOV.out e
            exact hc.ne_obj HX3.out (by decide)))
          have HB5 := hid hB5
          have HO7 := hid (own_keptS HOV.out hkS (fun q e => by
            obtain ⟨cc, hc⟩ := own_typed HOV.out e
            exact hc.ne_obj HX3.out (by decide)))
          have HSW : Hid (w.heap.size ≤ w2.heap.size) := Nat.le_trans HMV.out.2.size HB2.out.size
          have HBW : Hid (B ≤ w2.heap.size) := by have := (HH.out.lt xd (.inl rfl)); have := HMV.out.2.size; have := HB2.out.size; show B ≤ _; omega
          have HD5 := hid (HD.out.below hB5)
          clear y1 g1 z1 z2 g2 hkS hB5 HX3 HX4 HD3 HB3 HOV
          generalize (w3.setCell ⟨fb, 1, none⟩ (.slice va3 fsf vc3)).setCell ⟨fb, 2, none⟩ (.int .i64 (fsf : Nat)) = w5 at *
          have u0 := HX5.out.cell 0 (.string ⟨fnm.toArray⟩) rfl
          have u1 := HX5.out.cell 1 (.slice va3 fsf vc3) rfl
          have u2 := HX5.out.cell 2 (.int .i64 (fsf : Nat)) rfl
          have x1 := HD5.out.obj.cell 1 (.slice (some ⟨g, 0, none⟩) L'.length lc) rfl
          rw [hll] at x1
          have hc0 : w5.cell? ⟨g, i * 3, none⟩ = some (.string ⟨L'[i].nm.toArray⟩) := by
            have := HD5.out.row.cellAt (i * 3) (by omega)
            rw [this, show i * 3 = i * 3 + 0 by omega, flat_cell frC 3 frC_len L' i 0 hil (by decide)]; rfl
          have hc1 : w5.cell? ⟨g, i * 3 + 1, none⟩ = some L'[i].v := by
            rw [HD5.out.row.cellAt (i * 3 + 1) (by omega), flat_cell frC 3 frC_len L' i 1 hil (by decide)]; rfl
          have hc2 : w5.cell? ⟨g, i * 3 + 2, none⟩ = some (.int .i64 (L'[i].safe : Nat)) := by
            rw [HD5.out.row.cellAt (i * 3 + 2) (by omega), flat_cell frC 3 frC_len L' i 2 hil (by decide)]; rfl
          have hz0 := HD5.out.row.frozenAt (i * 3)
          have hz1 := HD5.out.row.frozenAt (i * 3 + 1)
          have hz2 := HD5.out.row.frozenAt (i * 3 + 2)
          go_region
          all_goals
            obtain ⟨L2, hl2, HD7, HM7, HN7, HC7, HS7, HU7⟩ := crash_fin (nn := fsf) (nv := (fsf : Nat)) (v := .slice va3 fsf vc3) hil hll HLV.out HMV.out HB5.out HD5.out HFN.out HFB.out HFS.out (by have := HO7.out; rw [HLN.out] at this ⊢; exact this) HSW.out HBW.out (by have := HK.out; omega) (by omega) HNE.out (by omega) HNDL.out HNM.out HCR.out HNT.out HSA.out HSU.out
            rw [List.tail_drop] at HC7
            clear hc0 hc1 hc2 hz0 hz1 hz2 u0 u1 u2 x1
            go_wp2_with fail
            go_roundw
            case rel => exact ⟨i + 1, k + 1, L2, by go_num, by go_num, by omega, by omega, hl2, HD7.out, HM7.out, HN7.out, HC7.out, HS7.out, HU7.out⟩
            case measure => simp [intOf]; omega
    · have hie : i = L.length := by omega
      have HFIN : Hid (∀ X, Rel L X → Rel L' (crashA X cuts)) := fun X r => r.crash HNM.out (by
        have := HCR.out
        rw [hie, List.take_of_length_le (by simp)] at this
        rw [← this])
      have HD3 : Hid (RfD wr xd cap B lv L') := by show RfD _ _ _ _ _ _; rw [HLV.out]; exact HD.out
      clear hie HCR
      go_wp2_with fail
      go_end0
      exact ⟨rfl, L', HD3.out, HMV.out, hll, HFIN.out⟩
end Go.Proofs.Ytibhkkfbhbnmeaa
