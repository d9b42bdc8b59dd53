/-
  The document's disk: Sync, Crash.
-/
import Derived.Test.YtibhkkfbhbnmeaaDr6
import Derived.BigRegion
namespace Go.Proofs.Ytibhkkfbhbnmeaa
open Go.RowKit
set_option maxRecDepth 20000
set_option linter.unusedVariables false

theorem synA_snoc (X : List Ab) (ns : List (List UInt8)) (n : List UInt8) : synA X (ns ++ [n]) = synA1 (synA X ns) n := by
  unfold synA; rw [List.foldl_append]; rfl
theorem flat_set2 : ∀ (L : List Fr) (i : Nat) (hi : i < L.length) (s : Nat), (L.flatMap frC).set (i * 3 + 2) (.int .i64 (s : Nat)) = (L.set i ⟨L[i].nm, L[i].v, L[i].b, s⟩).flatMap frC
  | [], i, hi, _ => by simp at hi
  | x :: L, 0, hi, s => by simp [frC]
  | x :: L, i + 1, hi, s => by
    have hi' : i < L.length := by simpa using hi
    have ih := flat_set2 L i hi' s
    rw [List.flatMap_cons, List.set_cons_succ, List.flatMap_cons]
    show (frC x ++ L.flatMap frC).set ((i + 1) * 3 + 2) _ = frC x ++ (L.set i ⟨L[i].nm, L[i].v, L[i].b, s⟩).flatMap frC
    rw [List.set_append_right _ _ (by rw [frC_len]; omega), frC_len, show (i + 1) * 3 + 2 - 3 = i * 3 + 2 by omega, ih]
theorem set_same {L : List Fr} {i : Nat} (hi : i < L.length) : L.set i ⟨L[i].nm, L[i].v, L[i].b, L[i].safe⟩ = L := by
  have : (⟨L[i].nm, L[i].v, L[i].b, L[i].safe⟩ : Fr) = L[i] := rfl
  rw [this, List.set_getElem_self]
theorem names_set {L : List Fr} {i : Nat} (hi : i < L.length) (x : Fr) (hx : x.nm = L[i].nm) : (L.set i x).map Fr.nm = L.map Fr.nm := by
  rw [List.map_set]
  refine List.ext_getElem (by simp) (fun j h1 h2 => ?_)
  by_cases hj : i = j
  · subst hj; rw [List.getElem_set_self]; simp [hx]
  · rw [List.getElem_set_ne hj]
theorem Rel.syn1 {L : List Fr} {X : List Ab} (h : Rel L X) {i : Nat} (hi : i < L.length) {nm : List UInt8} (hnm : L[i].nm = nm) : Rel (L.set i ⟨L[i].nm, L[i].v, L[i].b, L[i].b.length⟩) (synA1 X nm) := by
  refine ⟨?_, by rw [names_set hi ⟨L[i].nm, L[i].v, L[i].b, L[i].b.length⟩ rfl]; exact h.2⟩
  unfold synA1
  rw [absR_set h.nodup hi (fun a => if a.1 = nm then (a.1, a.2.1, a.2.1.length) else a) _ (by simp [hnm]) (fun a ha => by rw [if_neg (by rw [← hnm]; exact ha)])]
  exact h.1.map _
theorem findR_set {L : List Fr} {i : Nat} (hi : i < L.length) (x : Fr) (hx : x.nm = L[i].nm) (nm : List UInt8) : findR (L.set i x) nm = findR L nm := by
  have e : ∀ M : List Fr, M.findIdx? (fun x => x.nm == nm) = (M.map Fr.nm).findIdx? (fun y => y == nm) := fun M => by
    rw [List.findIdx?_map]; rfl
  unfold findR
  rw [e, e, names_set hi x hx]
/-- A store into the row at the safe of file i. -/
theorem RfD.safe {w : World} {xd B g c i s : Nat} {cap : Int} {L : List Fr} (h : RfD w xd cap B (.slice (some ⟨g, 0, none⟩) L.length c) L) (hi : i < L.length) :
    RfD (w.setCell ⟨g, i * 3 + 2, none⟩ (.int .i64 (s : Nat))) xd cap B (.slice (some ⟨g, 0, none⟩) L.length c) (L.set i ⟨L[i].nm, L[i].v, L[i].b, s⟩) := by
  have hk : KeptS (fun k => k = g) w (w.setCell ⟨g, i * 3 + 2, none⟩ (.int .i64 (s : Nat))) := KeptS.set w ⟨g, i * 3 + 2, none⟩ (.int .i64 (s : Nat)) rfl
  obtain ⟨cur, hcur⟩ := own_typed h.row (g := g) rfl
  have hrow := (h.row.stored (i * 3 + 2) (.int .i64 (s : Nat))).1
  rw [flat_set2 L i hi s] at hrow
  have hlen : (L.set i ⟨L[i].nm, L[i].v, L[i].b, s⟩).length = L.length := List.length_set ..
  refine ⟨h.obj.keptS hk (h.obj.ne_obj hcur (by decide)), by rw [hlen]; exact hrow, fun y hy => ?_, h.bx⟩
  have hoff : ∀ {v : Value} {b : List UInt8}, w.ownsRow B 5 1 v b.length (b.map byt) → (w.setCell ⟨g, i * 3 + 2, none⟩ (.int .i64 (s : Nat))).ownsRow B 5 1 v b.length (b.map byt) := fun ho => own_keptS ho hk (fun k e => by
    obtain ⟨cc, hc⟩ := own_typed ho e
    exact hc.ne_obj hcur (by decide))
  rcases List.mem_or_eq_of_mem_set hy with hy | rfl
  · exact hoff (h.bs y hy)
  · exact hoff (h.bs L[i] (List.getElem_mem hi))

set_option maxHeartbeats 2000000 in
theorem refd_sync (xd B : Nat) (cap : Int) (lv : Value) (L : List Fr) (a : Option Addr) (ns : List (List UInt8)) (c : Nat) (w : World) (h : RfD w xd cap B lv L) (hl : L.length ≤ 1048576) (hr : RowAt w a (ns.map fun s => Value.string ⟨s.toArray⟩)) (hn : ns.length ≤ 1048576) (hs : ∀ s ∈ ns, s.length ≤ 1048576) (hoff : ∀ ad, a = some ad → ns ≠ [] → ad.block < B) (hsum : sumR L ≤ 1073741824) :
    Calls Try.prog 21 #[.pointer (some ⟨xd, 0, none⟩), .slice a ns.length c] w (RApPost w xd cap B lv L (allR L ns) (fun X => if allR L ns = 0 then synA X ns else X)) := by
  have HH := hid h
  have HR := hid hr
  have HS := hid hs
  have HOF := hid hoff
  obtain ⟨code, hcode⟩ : ∃ k, k = allR L ns := ⟨_, rfl⟩
  rw [← hcode]
  have HC := hid hcode
  obtain ⟨R, hR⟩ : ∃ R : List Ab → List Ab, R = fun X => if code = 0 then synA X ns else X := ⟨_, rfl⟩
  rw [← hR]
  have HR0 : Hid (code = 0 → R = fun X => synA X ns) := fun e => by rw [hR]; funext X; rw [if_pos e]
  have HR1 : Hid (code ≠ 0 → ∀ X, R X = X) := fun e X => by rw [hR]; exact if_neg e
  clear hR hcode h hr hs hoff
  go_enter Try.func21, Try.ntmps21
  go_wp2_with fail
  refine (refd_all xd B cap lv L a ns c w HH.out (by omega) HR.out (by omega) HS.out).mono ?_
  rintro e w1 ⟨rfl, rfl⟩
  rw [← HC.out]
  by_cases hz : code = 0
  · have HALL : Hid (∀ s ∈ ns, 0 ≤ findR L s) := by
      show ∀ s ∈ ns, _
      have := HC.out
      rw [hz] at this
      unfold allR at this
      split at this
      · split at this
        · rename_i h2
          intro s hs
          simpa using List.all_eq_true.1 h2 s hs
        · cases this
      · cases this
    have HZ := hid hz
    subst hz
    go_wp2_with fail
    go_loopw [6] (fun s wr => ∃ (i : Nat) (L' : List Fr), s = .int .i64 i ∧ i ≤ ns.length ∧ L'.length = L.length ∧ Hid (RfD wr xd cap B lv L') ∧ Hid (KeptS (RHas xd lv L) w wr) ∧ Hid (L'.map (fun x => (x.nm, x.v, x.b)) = L.map (fun x => (x.nm, x.v, x.b))) ∧ Hid (∀ X, Rel L X → Rel L' (synA X (ns.take i)))) (fun s _ => ns.length - (intOf s).toNat)
    case atStart => exact ⟨0, L, rfl, Nat.zero_le _, rfl, HH.out, KeptS.refl _ _, rfl, fun X r => r⟩
    case round =>
      obtain ⟨i, L', rfl, hi, hll, HD, HK, HSame, HRel⟩ := hrel
      by_cases hlt : i < ns.length
      · have HRw : Hid (RowAt wr a (ns.map fun s => Value.string ⟨s.toArray⟩)) := HR.out.keptS HK.out (fun ad e hh => by
          have h1 := HOF.out ad e (by intro h; rw [h] at hlt; simp at hlt)
          have h2 := (HH.out.lt _ hh).1
          omega)
        obtain ⟨b, o, rfl, r0⟩ := name_row HRw.out hlt
        have htk : Hid (ns.take (i + 1) = ns.take i ++ [ns[i]]) := List.take_succ_eq_append_getElem hlt
        have hfd := HALL.out _ (List.getElem_mem hlt)
        generalize ns[i] = nm at *
        go_wp2_with fail
        refine (refd_find xd B cap lv L' nm wr HD.out (by omega)).mono ?_
        rintro e w2 ⟨rfl, rfl⟩
        have hff : findR L' nm = findR L nm := by
          have e : ∀ M : List Fr, M.findIdx? (fun x => x.nm == nm) = (M.map (fun x => (x.nm, x.v, x.b))).findIdx? (fun y => y.1 == nm) := fun M => by
            rw [List.findIdx?_map]; rfl
          unfold findR
          rw [e, e, HSame.out]
        obtain ⟨j, hj, hfe, hnm⟩ := findR_at (L := L') (nm := nm) (by omega)
        rw [hfe]
        have HRel2 : Hid (∀ X, Rel L X → Rel (L'.set j ⟨L'[j].nm, L'[j].v, L'[j].b, L'[j].b.length⟩) (synA X (ns.take (i + 1)))) := fun X r => by rw [htk.out, synA_snoc]; exact (HRel.out X r).syn1 hj hnm
        have HSame2 : Hid ((L'.set j ⟨L'[j].nm, L'[j].v, L'[j].b, L'[j].b.length⟩).map (fun x => (x.nm, x.v, x.b)) = L.map (fun x => (x.nm, x.v, x.b))) := by
          show _ = _
          rw [← HSame.out, List.map_set]
          refine List.ext_getElem (by simp) (fun k h1 h2 => ?_)
          by_cases hk : j = k
          · subst hk; rw [List.getElem_set_self]; simp
          · rw [List.getElem_set_ne hk]
        clear hff hfe hnm hfd r0
        obtain ⟨la, lc, hlv, -⟩ := HD.out.len
        have HLV := hid hlv
        rw [hlv] at HD
        obtain ⟨g, hga, -, hgl⟩ := own_some HD.out.row (by omega : 0 < L'.length)
        subst hga
        obtain ⟨va, vc, hve, -, -, -, -⟩ := owns_bytes (HD.out.bs L'[j] (List.getElem_mem hj))
        have hc1 : wr.cell? ⟨g, j * 3 + 1, none⟩ = some L'[j].v := by
          rw [HD.out.row.cellAt (j * 3 + 1) (by omega), flat_cell frC 3 frC_len L' j 1 hj (by decide)]; rfl
        have hc2 : wr.cell? ⟨g, j * 3 + 2, none⟩ = some (.int .i64 (L'[j].safe : Nat)) := by
          rw [HD.out.row.cellAt (j * 3 + 2) (by omega), flat_cell frC 3 frC_len L' j 2 hj (by decide)]; rfl
        have hfz := HD.out.row.frozenAt (j * 3 + 2)
        rw [hve] at hc1
        have x1 := HD.out.obj.cell 1 (.slice (some ⟨g, 0, none⟩) L'.length lc) rfl
        have HDN := hid (HD.out.safe (s := L'[j].b.length) hj)
        have HKN : Hid (KeptS (RHas xd lv L) w (wr.setCell ⟨g, j * 3 + 2, none⟩ (.int .i64 (L'[j].b.length : Nat)))) := HK.out.next (KeptS.set wr ⟨g, j * 3 + 2, none⟩ (.int .i64 (L'[j].b.length : Nat)) (.inr (.inl (by rw [HLV.out]; rfl))))
        have hlen2 : (L'.set j ⟨L'[j].nm, L'[j].v, L'[j].b, L'[j].b.length⟩).length = L.length := by rw [List.length_set]; exact hll
        clear hve
        have hjl : j < L'.length := hj
        generalize L'.set j ⟨L'[j].nm, L'[j].v, L'[j].b, L'[j].b.length⟩ = L2 at *
        generalize L'[j].b.length = bl2 at *
        generalize L'[j].safe = sf2 at *
        go_upto_region 8 with fail
        go_region
        all_goals
          have HD9 : Hid (RfD ((wr.setCell ⟨g, j * 3 + 2, none⟩ (.int .i64 (bl2 : Nat))).drew) xd cap B lv L2) := by
            show RfD _ _ _ _ _ _
            rw [HLV.out]; exact HDN.out.below (below_drewN' 1)
          have HK9 : Hid (KeptS (RHas xd lv L) w ((wr.setCell ⟨g, j * 3 + 2, none⟩ (.int .i64 (bl2 : Nat))).drew)) := HKN.out.next (KeptS.drewN _ 1)
          clear hc1 hc2 hfz x1
          go_wp2_with fail
          go_roundw
          case rel => exact ⟨i + 1, L2, by go_num, by omega, hlen2, HD9.out, HK9.out, HSame2.out, HRel2.out⟩
          case measure => simp [intOf]; omega
      · have hie : i = ns.length := by omega
        have HFIN : Hid (∀ X, Rel L X → Rel L' (synA X ns)) := fun X r => by have := HRel.out X r; rw [hie, List.take_length] at this; exact this
        have hmv : RMoved w wr xd lv L lv L' := by
          refine ⟨fun k hk => ?_, HK.out⟩
          rcases hk with rfl | e | ⟨x, hx, e⟩
          · exact .inl (.inl rfl)
          · exact .inl (.inr (.inl e))
          · have hm : (x.nm, x.v, x.b) ∈ L'.map (fun x => (x.nm, x.v, x.b)) := List.mem_map.2 ⟨x, hx, rfl⟩
            rw [HSame.out] at hm
            obtain ⟨y, hy, he⟩ := List.mem_map.1 hm
            simp only [Prod.mk.injEq] at he
            exact .inl (.inr (.inr ⟨y, hy, by rw [he.2.1]; exact e⟩))
        have HMV := hid hmv
        clear hie hmv
        go_wp2_with fail
        go_ret
        rw [HR0.out (by trivial)]
        exact ⟨rfl, lv, L', HD.out, HFIN.out, HMV.out⟩
  · have hz2 : (code != 0) = true := by simpa using hz
    have hz3 : (code == 0) = false := by simpa using hz
    have HNZ := hid hz
    clear hz
    go_wp2_with fail
    go_ret
    exact rap_same HH.out (Below.refl _ _) (HR1.out HNZ.out)
theorem sort_names {L : List Fr} {X : List Ab} (h : Rel L X) : sortL (X.map Prod.fst) = L.map Fr.nm := by
  have hp : (sortL (X.map Prod.fst)).Perm (L.map Fr.nm) := (List.mergeSort_perm _ _).trans (by rw [names_absR]; exact (h.1.map _).symm)
  exact List.Perm.eq_of_pairwise (le := fun a b : List UInt8 => a ≤ b) (fun a b _ _ h1 h2 => List.le_antisymm h1 h2) (sortL_sorted _) (h.2.imp (fun hab => List.le_of_lt hab)) hp
theorem find_perm {A X : List Ab} (hp : A.Perm X) (hn : (A.map Prod.fst).Nodup) (nm : List UInt8) : A.find? (fun a => decide (a.1 = nm)) = X.find? (fun a => decide (a.1 = nm)) := by
  have hnx : (X.map Prod.fst).Nodup := (hp.map _).nodup_iff.1 hn
  cases h : A.find? (fun a => decide (a.1 = nm)) with
  | none =>
    symm
    rw [List.find?_eq_none] at h ⊢
    exact fun a ha => h a (hp.mem_iff.2 ha)
  | some a =>
    have h1 := hp.mem_iff.1 (List.mem_of_find?_eq_some h)
    have h2 : a.1 = nm := by simpa using List.find?_some h
    cases h3 : X.find? (fun a => decide (a.1 = nm)) with
    | none => exact absurd (List.find?_eq_none.1 h3 a h1) (by simpa using h2)
    | some b =>
      have h4 := List.mem_of_find?_eq_some h3
      have h5 : b.1 = nm := by simpa using List.find?_some h3
      rw [nd_eq hnx h1 h4 (by rw [h2, h5])]
theorem crash1_names (p : List Ab × List Int) (n : List UInt8) : (crash1 p n).1.map Prod.fst = p.1.map Prod.fst := by
  unfold crash1
  split
  · rfl
  · split
    · rfl
    · unfold setA
      rw [List.map_map]
      refine List.map_congr_left (fun a _ => ?_)
      show (if _ then _ else _ : Ab).1 = a.1
      split <;> rfl
theorem crash1_perm {A X : List Ab} (hp : A.Perm X) (hn : (A.map Prod.fst).Nodup) (cs : List Int) (nm : List UInt8) : (crash1 (A, cs) nm).1.Perm (crash1 (X, cs) nm).1 ∧ (crash1 (A, cs) nm).2 = (crash1 (X, cs) nm).2 := by
  unfold crash1
  simp only
  rw [find_perm hp hn nm]
  cases X.find? (fun a => decide (a.1 = nm)) with
  | none => exact ⟨hp, rfl⟩
  | some a =>
    simp only
    split
    · exact ⟨hp, rfl⟩
    · exact ⟨hp.map _, rfl⟩
theorem crashN_perm : ∀ (ns : List (List UInt8)) {A X : List Ab} (hp : A.Perm X) (hn : (A.map Prod.fst).Nodup) (cs : List Int), (crashN (A, cs) ns).1.Perm (crashN (X, cs) ns).1
  | [], A, X, hp, hn, cs => hp
  | n :: ns, A, X, hp, hn, cs => by
    obtain ⟨h1, h2⟩ := crash1_perm hp hn cs n
    show (crashN (crash1 (A, cs) n) ns).1.Perm (crashN (crash1 (X, cs) n) ns).1
    have e1 : crash1 (A, cs) n = ((crash1 (A, cs) n).1, (crash1 (A, cs) n).2) := rfl
    have e2 : crash1 (X, cs) n = ((crash1 (X, cs) n).1, (crash1 (A, cs) n).2) := by rw [h2]
    rw [e1, e2]
    exact crashN_perm ns h1 (by rw [crash1_names]; exact hn) _
theorem Rel.crash {L L' : List Fr} {X : List Ab} {cs : List Int} (h : Rel L X) (hn : L'.map Fr.nm = L.map Fr.nm) (he : absR L' = (crashN (absR L, cs) (L.map Fr.nm)).1) : Rel L' (crashA X cs) := by
  refine ⟨?_, by rw [hn]; exact h.2⟩
  unfold crashA
  rw [sort_names h, he]
  exact crashN_perm _ h.1 (by rw [← names_absR]; exact h.nodup) cs
theorem absR_find {L : List Fr} (hn : (L.map Fr.nm).Nodup) {i : Nat} (hi : i < L.length) : (absR L).find? (fun a => decide (a.1 = L[i].nm)) = some (L[i].nm, L[i].b, L[i].safe) := by
  cases h : (absR L).find? (fun a => decide (a.1 = L[i].nm)) with
  | none => exact absurd (List.find?_eq_none.1 h (L[i].nm, L[i].b, L[i].safe) (List.mem_map.2 ⟨L[i], List.getElem_mem hi, rfl⟩)) (by simp)
  | some b =>
    have h4 := List.mem_of_find?_eq_some h
    have h5 : b.1 = L[i].nm := by simpa using List.find?_some h
    rw [nd_eq (A := absR L) (by rw [← names_absR]; exact hn) h4 (List.mem_map.2 ⟨L[i], List.getElem_mem hi, rfl⟩) h5]
theorem crash_sameR {L : List Fr} (hn : (L.map Fr.nm).Nodup) {i : Nat} (hi : i < L.length) {cs : List Int} (he : L[i].safe = L[i].b.length) : crash1 (absR L, cs) L[i].nm = (absR L, cs) := by
  unfold crash1
  simp only
  rw [absR_find hn hi]
  simp only
  rw [if_pos he]
theorem crash_cutR {L : List Fr} (hn : (L.map Fr.nm).Nodup) {i : Nat} (hi : i < L.length) {cs : List Int} (he : L[i].safe ≠ L[i].b.length) (v : Value) :
    crash1 (absR L, cs) L[i].nm = (absR (L.set i ⟨L[i].nm, v, L[i].b.take (L[i].safe + keepN cs (L[i].b.length - L[i].safe)), L[i].safe + keepN cs (L[i].b.length - L[i].safe)⟩), cs.tail) := by
  unfold crash1
  simp only
  rw [absR_find hn hi]
  simp only
  rw [if_neg he, absR_set hn hi (fun a => if a.1 = L[i].nm then (a.1, L[i].b.take (L[i].safe + keepN cs (L[i].b.length - L[i].safe)), L[i].safe + keepN cs (L[i].b.length - L[i].safe)) else a) _ (by simp) (fun a ha => by rw [if_neg ha])]
  rfl
end Go.Proofs.Ytibhkkfbhbnmeaa
