/-
  The document's disk: Append.
-/
import Derived.Test.YtibhkkfbhbnmeaaDr2
import Derived.Deep.RegionWith
namespace Go.Proofs.Ytibhkkfbhbnmeaa
open Go.RowKit
set_option maxRecDepth 20000
set_option linter.unusedVariables false

/-- The document's list holds what the map holds, in the order of names. -/
def Rel (L : List Fr) (X : List Ab) : Prop := (absR L).Perm X ∧ (L.map Fr.nm).Pairwise (· < ·)
theorem Rel.nodup {L : List Fr} {X : List Ab} (h : Rel L X) : (L.map Fr.nm).Nodup := h.2.imp (fun hab e => by subst e; exact List.lt_irrefl _ hab)
theorem names_absR (L : List Fr) : L.map Fr.nm = (absR L).map Prod.fst := by unfold absR; rw [List.map_map]; rfl
theorem Rel.sum {L : List Fr} {X : List Ab} (h : Rel L X) : sumR L = sumA X := by
  rw [sumR_abs]; unfold sumA; exact (h.1.map _).sum_nat
theorem Rel.len {L : List Fr} {X : List Ab} (h : Rel L X) : L.length = X.length := by
  have := h.1.length_eq
  unfold absR at this
  simpa using this
theorem Rel.any {L : List Fr} {X : List Ab} (h : Rel L X) (nm : List UInt8) : X.any (fun a => decide (a.1 = nm)) = decide (0 ≤ findR L nm) := by
  have e : X.any (fun a => decide (a.1 = nm)) = L.any (fun x => x.nm == nm) := by
    rw [Bool.eq_iff_iff, List.any_eq_true, List.any_eq_true]
    constructor
    · rintro ⟨a, ha, he⟩
      obtain ⟨x, hx, rfl⟩ := List.mem_map.1 (h.1.mem_iff.2 ha)
      exact ⟨x, hx, by simpa using he⟩
    · rintro ⟨x, hx, he⟩
      exact ⟨(x.nm, x.b, x.safe), h.1.mem_iff.1 (List.mem_map.2 ⟨x, hx, rfl⟩), by simpa using he⟩
  rw [e]
  unfold findR
  cases hf : L.findIdx? (fun x => x.nm == nm) with
  | none =>
    rw [List.findIdx?_eq_none_iff] at hf
    have : L.any (fun x => x.nm == nm) = false := by
      rw [List.any_eq_false]; intro x hx; rw [hf x hx]; simp
    rw [this]; decide
  | some i =>
    rw [List.findIdx?_eq_some_iff_getElem] at hf
    obtain ⟨hi, he, -⟩ := hf
    have : L.any (fun x => x.nm == nm) = true := List.any_eq_true.2 ⟨L[i], List.getElem_mem hi, he⟩
    rw [this]; simp
theorem Rel.ins {L : List Fr} {X : List Ab} {f : Fr} (h : Rel L X) (hn : findR L f.nm < 0) (hs : f.safe = 0) : Rel (insR L f) (appA X f.nm f.b) := by
  have ha := h.any f.nm
  have hp : ∀ (L : List Fr), (absR (insR L f)).Perm ((f.nm, f.b, f.safe) :: absR L) := by
    intro L
    induction L with
    | nil => exact List.Perm.refl _
    | cons x L ih =>
      unfold insR
      split
      · exact List.Perm.refl _
      · exact (ih.cons (x.nm, x.b, x.safe)).trans (List.Perm.swap _ _ _)
  have hnn : ∀ x ∈ L, x.nm ≠ f.nm := fun x hx e => by
    have : X.any (fun a => decide (a.1 = f.nm)) = true := List.any_eq_true.2 ⟨_, h.1.mem_iff.1 (List.mem_map.2 ⟨x, hx, rfl⟩), by simpa using e⟩
    rw [ha] at this
    simp only [decide_eq_true_eq] at this
    omega
  refine ⟨?_, ?_⟩
  · unfold appA
    rw [if_neg (by rw [ha]; simp only [decide_eq_true_eq]; omega)]
    refine (hp L).trans ?_
    rw [hs]
    exact ((h.1.cons _)).trans (List.perm_append_singleton _ _).symm
  · have hs2 := h.2
    clear h ha hn
    induction L with
    | nil => simp [insR]
    | cons x L ih =>
      simp only [List.map_cons, List.pairwise_cons] at hs2
      unfold insR
      split
      · rename_i hlt
        simp only [List.map_cons, List.pairwise_cons]
        refine ⟨fun y hy => ?_, hs2.1, hs2.2⟩
        rcases List.mem_cons.1 hy with rfl | hy
        · exact hlt
        · exact List.lt_trans hlt (hs2.1 y hy)
      · rename_i hlt
        simp only [List.map_cons, List.pairwise_cons]
        refine ⟨fun y hy => ?_, ih (fun y hy => hnn y (List.mem_cons_of_mem _ hy)) hs2.2⟩
        obtain ⟨z, hz, rfl⟩ := List.mem_map.1 hy
        rcases insR_mem hz with rfl | hz
        · by_cases h : z.nm < x.nm
          · exact absurd h hlt
          · rcases List.le_iff_lt_or_eq.1 (List.not_lt.1 h) with h | h
            · exact h
            · exact absurd h (hnn x (List.mem_cons_self ..))
        · exact hs2.1 _ (List.mem_map.2 ⟨z, hz, rfl⟩)
theorem absR_set {L : List Fr} (hn : (L.map Fr.nm).Nodup) {i : Nat} (hi : i < L.length) (g : Ab → Ab) (x : Fr) (hx : (x.nm, x.b, x.safe) = g (L[i].nm, L[i].b, L[i].safe)) (hg : ∀ a, a.1 ≠ L[i].nm → g a = a) : absR (L.set i x) = (absR L).map g := by
  refine List.ext_getElem (by simp [absR]) (fun j h1 h2 => ?_)
  simp only [absR, List.length_map, List.length_set] at h1
  simp only [absR, List.getElem_map]
  by_cases hj : j = i
  · subst hj
    rw [List.getElem_set_self]; exact hx
  · rw [List.getElem_set_ne (fun e => hj e.symm)]
    symm
    apply hg
    intro e
    have := (List.nodup_iff_pairwise_ne.1 hn)
    rw [List.pairwise_iff_getElem] at this
    rcases Nat.lt_or_gt_of_ne hj with h | h
    · exact this j i (by simpa using h1) (by simpa using hi) h (by simpa using e)
    · exact this i j (by simpa using hi) (by simpa using h1) h (by simpa using e.symm)
theorem Rel.set {L : List Fr} {X : List Ab} (h : Rel L X) {i : Nat} (hi : i < L.length) {nm l : List UInt8} (hnm : L[i].nm = nm) (v : Value) : Rel (L.set i ⟨nm, v, L[i].b ++ l, L[i].safe⟩) (appA X nm l) := by
  have hany : X.any (fun a => decide (a.1 = nm)) = true := List.any_eq_true.2 ⟨_, h.1.mem_iff.1 (List.mem_map.2 ⟨L[i], List.getElem_mem hi, rfl⟩), by simpa using hnm⟩
  refine ⟨?_, ?_⟩
  · unfold appA
    rw [if_pos hany, absR_set h.nodup hi (fun a => if a.1 = nm then (a.1, a.2.1 ++ l, a.2.2) else a) _ (by simp [hnm]) (fun a ha => by rw [if_neg (by rw [← hnm]; exact ha)])]
    exact h.1.map _
  · have : (L.set i ⟨nm, v, L[i].b ++ l, L[i].safe⟩).map Fr.nm = L.map Fr.nm := by
      rw [List.map_set]
      refine List.ext_getElem (by simp) (fun j h1 h2 => ?_)
      by_cases hj : i = j
      · subst hj; rw [List.getElem_set_self]; simp [hnm]
      · rw [List.getElem_set_ne hj]
    rw [this]; exact h.2

def RMoved (w w' : World) (xd : Nat) (lv : Value) (L : List Fr) (lv' : Value) (L' : List Fr) : Prop := (∀ k, RHas xd lv' L' k → RHas xd lv L k ∨ w.heap.size ≤ k) ∧ KeptS (RHas xd lv L) w w'
def RApPost (w : World) (xd : Nat) (cap : Int) (B : Nat) (lv : Value) (L : List Fr) (code : Int) (R : List Ab → List Ab) (e : Ending) (w' : World) : Prop :=
  e = .returned (.int .i64 code) ∧ ∃ lv' L', RfD w' xd cap B lv' L' ∧ (∀ X, Rel L X → Rel L' (R X)) ∧ RMoved w w' xd lv L lv' L'
def apE (L : List Fr) (cap : Int) (nm l : List UInt8) : Int := if fname nm then (if cap < (sumR L : Int) + l.length then 32 else 0) else 30

theorem rap_same {w w' : World} {xd B : Nat} {cap : Int} {lv : Value} {L : List Fr} {code : Int} {R : List Ab → List Ab} (h : RfD w xd cap B lv L) (hb : Below w.heap.size w w') (hR : ∀ X, R X = X) : RApPost w xd cap B lv L code R (.returned (.int .i64 code)) w' :=
  ⟨rfl, lv, L, h.below hb, fun X r => by rw [hR]; exact r, fun k hk => .inl hk, KeptS.of_below hb⟩
theorem rap_lay {w w3 w' : World} {xd B : Nat} {cap : Int} {lv : Value} {L : List Fr} {f : Fr} {e : Ending} (h : RfD w xd cap B lv L) (hb : Below w.heap.size w w3) (hf : ∀ k, f.v.ownBlock = some k → w.heap.size ≤ k) (hp : LayPost w3 xd cap B L f e w') (hn : findR L f.nm < 0) (hs : f.safe = 0) :
    RApPost w xd cap B lv L 0 (fun X => appA X f.nm f.b) (.returned (.int .i64 0)) w' := by
  obtain ⟨-, lv', hd, hl, hk⟩ := hp
  refine ⟨rfl, lv', _, hd, fun X r => r.ins hn hs, fun k hk => ?_, (KeptS.of_below hb).trans hk (fun i hi e => .inl e)⟩
  rcases hk with rfl | e | ⟨x, hx, e⟩
  · exact .inl (.inl rfl)
  · exact .inr (Nat.le_trans hb.size (hl k e))
  · rcases insR_mem hx with rfl | hx
    · exact .inr (hf k e)
    · exact .inl (.inr (.inr ⟨x, hx, e⟩))

theorem flat_set : ∀ (L : List Fr) (i : Nat) (hi : i < L.length) (v : Value) (b : List UInt8), (L.flatMap frC).set (i * 3 + 1) v = (L.set i ⟨L[i].nm, v, b, L[i].safe⟩).flatMap frC
  | [], i, hi, _, _ => by simp at hi
  | x :: L, 0, hi, v, b => by simp [frC]
  | x :: L, i + 1, hi, v, b => by
    have hi' : i < L.length := by simpa using hi
    have ih := flat_set L i hi' v b
    rw [List.flatMap_cons, List.set_cons_succ, List.flatMap_cons]
    show (frC x ++ L.flatMap frC).set ((i + 1) * 3 + 1) v = frC x ++ (L.set i ⟨L[i].nm, v, b, L[i].safe⟩).flatMap frC
    rw [List.set_append_right _ _ (by rw [frC_len]; omega), frC_len, show (i + 1) * 3 + 1 - 3 = i * 3 + 1 by omega, ih]
theorem rap_set {w wq w3 w5 : World} {xd B g c i s3 : Nat} {cap : Int} {L : List Fr} {nm l : List UInt8} {v : Value} (hq : Below w.heap.size w wq) (hh : RfD wq xd cap B (.slice (some ⟨g, 0, none⟩) L.length c) L) (hb3 : Below wq.heap.size wq w3)
    (hi : i < L.length) (hnm : L[i].nm = nm) (hov : w3.ownsRow s3 5 1 v (L[i].b ++ l).length ((L[i].b ++ l).map byt)) (hs3 : wq.heap.size ≤ s3) (h5 : Below (w3.setCell ⟨g, i * 3 + 1, none⟩ v).heap.size (w3.setCell ⟨g, i * 3 + 1, none⟩ v) w5) :
    RApPost w xd cap B (.slice (some ⟨g, 0, none⟩) L.length c) L 0 (fun X => appA X nm l) (.returned (.int .i64 0)) w5 := by
  have h3 := hh.below hb3
  have hk : KeptS (fun k => k = g) w3 (w3.setCell ⟨g, i * 3 + 1, none⟩ v) := KeptS.set w3 ⟨g, i * 3 + 1, none⟩ v rfl
  obtain ⟨cur, hcur⟩ := own_typed h3.row (g := g) rfl
  have hBw : B ≤ wq.heap.size := by have := (hh.lt xd (.inl rfl)); omega
  have hrow := (h3.row.stored (i * 3 + 1) v).1
  rw [flat_set L i hi v (L[i].b ++ l)] at hrow
  have hlen : (L.set i ⟨L[i].nm, v, L[i].b ++ l, L[i].safe⟩).length = L.length := List.length_set ..
  have hd : RfD (w3.setCell ⟨g, i * 3 + 1, none⟩ v) xd cap B (.slice (some ⟨g, 0, none⟩) L.length c) (L.set i ⟨L[i].nm, v, L[i].b ++ l, L[i].safe⟩) := by
    refine ⟨h3.obj.keptS hk (h3.obj.ne_obj hcur (by decide)), by rw [hlen]; exact hrow, fun y hy => ?_, hh.bx⟩
    have hoff : ∀ {y : Fr}, w3.ownsRow B 5 1 y.v y.b.length (y.b.map byt) → (w3.setCell ⟨g, i * 3 + 1, none⟩ v).ownsRow B 5 1 y.v y.b.length (y.b.map byt) := fun ho => own_keptS ho hk (fun k e => by
      obtain ⟨cc, hc⟩ := own_typed ho e
      exact hc.ne_obj hcur (by decide))
    rcases List.mem_or_eq_of_mem_set hy with hy | rfl
    · exact hoff (h3.bs y hy)
    · exact hoff (y := ⟨L[i].nm, v, L[i].b ++ l, L[i].safe⟩) (owns_base hov (by omega))
  refine ⟨rfl, _, _, hd.below h5, fun X r => by have := r.set hi hnm (l := l) v; rw [hnm]; exact this, fun k hk => ?_, ?_⟩
  · rcases hk with rfl | e | ⟨y, hy, e⟩
    · exact .inl (.inl rfl)
    · exact .inl (.inr (.inl e))
    · rcases List.mem_or_eq_of_mem_set hy with hy | rfl
      · exact .inl (.inr (.inr ⟨y, hy, e⟩))
      · have := (own_lt hov k e).1
        have := hq.size
        exact .inr (by omega)
  · exact (((KeptS.of_below hq).next (KeptS.of_below hb3)).next (hk.imp (fun k e => .inr (.inl (by rw [e]; rfl))))).next (KeptS.of_below h5)

set_option maxHeartbeats 2000000 in
theorem refd_append (xd B : Nat) (cap : Int) (lv : Value) (L : List Fr) (nm l : List UInt8) (v2 : Value) (w : World) (h : RfD w xd cap B lv L) (hl : L.length ≤ 1048576) (hb2 : IsBytes w v2 l) (hll : l.length ≤ 1099511627776) (hs : sumR L ≤ 1073741824) (hc : cap ≤ 1073741824) (hnm : nm.length ≤ 1048576) :
    Calls Try.prog 8 #[.pointer (some ⟨xd, 0, none⟩), .string ⟨nm.toArray⟩, v2] w (RApPost w xd cap B lv L (apE L cap nm l) (fun X => if apE L cap nm l = 0 then appA X nm l else X)) := by
  obtain ⟨a2, c2, hv2, hrow2, -, hlc2, hc2⟩ := id hb2
  subst hv2
  have HH := hid h
  have HB2 := hid hb2
  obtain ⟨code, hcode⟩ : ∃ k, k = apE L cap nm l := ⟨_, rfl⟩
  rw [← hcode]
  have HC := hid hcode
  obtain ⟨R, hR⟩ : ∃ R : List Ab → List Ab, R = fun X => if code = 0 then appA X nm l else X := ⟨_, rfl⟩
  rw [← hR]
  have HR0 : Hid (code = 0 → R = fun X => appA X nm l) := fun e => by rw [hR]; funext X; rw [if_pos e]
  have HR1 : Hid (code ≠ 0 → ∀ X, R X = X) := fun e X => by rw [hR]; exact if_neg e
  clear hR
  have x0 := h.obj.cell 0 (.int .i64 cap) rfl
  clear h hb2 hrow2 hcode
  go_enter Try.func8, Try.ntmps8
  go_wp2_with fail
  refine (ref_name ⟨nm.toArray⟩ w hnm).mono ?_
  rintro e w1 ⟨rfl, rfl⟩
  have ebl : (ByteArray.mk nm.toArray).data.toList = nm := rfl
  rw [ebl]
  clear ebl
  cases hf : fname nm with
  | false =>
    have HCC : Hid (code = 30) := by show code = 30; rw [HC.out]; unfold apE; rw [hf]; rfl
    clear hf
    go_wp2_with fail
    go_ret
    rw [show code = 30 from HCC.out]
    exact rap_same HH.out (Below.refl _ _) (HR1.out (by rw [HCC.out]; decide))
  | true =>
    have hus : ∀ k, Calls Try.prog 30 #[.pointer (some ⟨xd, 0, none⟩)] (w.drewN k) fun e w' => e = .returned (.int .i64 (sumR L : Nat)) ∧ w' = w.drewN k := fun k =>
      (refd_used xd B cap lv L (w.drewN k) (HH.out.below (below_drewN' k)) (by omega) (by omega)).mono fun e w' h => ⟨h.1, h.2.symm⟩
    have HUS := hid hus
    have HFN := hid hf
    have hws : IntKind.i64.wrap ((sumR L : Int) + (l.length : Int)) = (sumR L : Int) + l.length := by rw [IntKind.wrap_i64]; omega
    clear hus hf
    by_cases hgt : cap < (sumR L : Int) + l.length
    · have HCC : Hid (code = 32) := by show code = 32; rw [HC.out]; unfold apE; rw [if_pos HFN.out, if_pos hgt]
      go_upto_region 3 with fail
      go_quiet ((go_at_call 30; exact Calls.quiet_of_same (HUS.out _)))
      go_wp2_with fail
      go_ret
      rw [show code = 32 from HCC.out]
      exact rap_same HH.out (below_drewN' _) (HR1.out (by rw [HCC.out]; decide))
    · have HCC : Hid (code = 0) := by show code = 0; rw [HC.out]; unfold apE; rw [if_pos HFN.out, if_neg hgt]
      have hgt2 : (sumR L : Int) + l.length ≤ cap := by omega
      clear hgt
      go_upto_region 3 with fail
      go_quiet ((go_at_call 30; exact Calls.quiet_of_same (HUS.out _)))
      have hq := below_drewN' (B := w.heap.size) (w := w) nq
      have HHq := hid (HH.out.below hq)
      have HBq := hid (HB2.out.below hq)
      have HQ := hid hq
      clear hq hws
      generalize w.drewN nq = wq at *
      go_wp2_with fail
      refine (refd_find xd B cap lv L nm wq HHq.out (by omega)).mono ?_
      rintro e w1 ⟨rfl, rfl⟩
      by_cases hfd : findR L nm < 0
      · have HFD := hid hfd
        go_wp2_with fail
        refine (ref_copy _ l wq HBq.out (by omega)).mono ?_
        rintro e w3 ⟨v, rfl, hov, hb⟩
        obtain ⟨va, vc, rfl, -, -⟩ := owns_row hov
        have hBw : B ≤ wq.heap.size := by have := (HHq.out.lt xd (.inl rfl)); omega
        have HOV := hid (owns_base hov hBw)
        have HB3 := hid (HQ.out.trans (hb.mono HQ.out.size))
        have HOB : Hid (∀ k, (Value.slice va l.length vc).ownBlock = some k → w.heap.size ≤ k) := fun k e => Nat.le_trans HQ.out.size (own_lt hov k e).1
        have HH3 := hid (HHq.out.below hb)
        clear hov hb hfd
        go_wp2_with fail
        refine (refd_lay xd B cap lv L ⟨nm, .slice va l.length vc, l, 0⟩ w3 HH3.out hl HOV.out).mono ?_
        rintro e w4 hp
        have he4 := hp.1
        have HP := hid (rap_lay (f := ⟨nm, .slice va l.length vc, l, 0⟩) HH.out HB3.out HOB.out hp HFD.out rfl)
        subst he4
        clear hp
        go_wp2_with fail
        go_ret
        rw [show code = 0 from HCC.out, HR0.out HCC.out]
        exact HP.out
      · obtain ⟨i, hfi⟩ : ∃ i, L.findIdx? (fun x => x.nm == nm) = some i := by
          cases h : L.findIdx? (fun x => x.nm == nm) with
          | none => exact absurd (findR_none h) (by omega)
          | some i => exact ⟨i, rfl⟩
        have hfe := findR_some hfi
        rw [List.findIdx?_eq_some_iff_getElem] at hfi
        obtain ⟨hi, hnmi, -⟩ := hfi
        have HNI : Hid (L[i].nm = nm) := by show L[i].nm = nm; simpa using hnmi
        rw [hfe]
        clear hfe hfd hnmi
        obtain ⟨a, c, hlv, hrow⟩ := HHq.out.len
        subst hlv
        have hlpos : 0 < L.length := by omega
        obtain ⟨g, hga, -, -⟩ := own_some HHq.out.row hlpos
        subst hga
        have x1 := HHq.out.obj.cell 1 (.slice (some ⟨g, 0, none⟩) L.length c) rfl
        obtain ⟨va, vc, hve, -, -, -, -⟩ := owns_bytes (HHq.out.bs L[i] (List.getElem_mem hi))
        have hc1 : wq.cell? ⟨g, i * 3 + 1, none⟩ = some L[i].v := by
          rw [HHq.out.row.cellAt (i * 3 + 1) (by omega), flat_cell frC 3 frC_len L i 1 hi (by decide)]; rfl
        have HVE := hid hve
        rw [hve] at hc1
        have HXB := hid (owns_bytes (HHq.out.bs L[i] (List.getElem_mem hi)))
        clear hve hrow
        go_upto_region 9 with fail
        have HBW : Hid (Below wq.heap.size wq ((wq.alloc (.cells #[.slice va L[i].b.length vc, .slice a2 l.length c2] 32)).drew)) := (below_new (.cells #[.slice va L[i].b.length vc, .slice a2 l.length c2] 32)).trans ((below_drewN' 1).mono (Nat.le_refl _))
        have HRW : Hid (RowAt ((wq.alloc (.cells #[.slice va L[i].b.length vc, .slice a2 l.length c2] 32)).drew) (some ⟨wq.heap.size, 0, none⟩) [.slice va L[i].b.length vc, .slice a2 l.length c2]) := (RowAt.new wq #[.slice va L[i].b.length vc, .slice a2 l.length c2] 32 (0, 0)).below (below_drewN' 1)
        have HAW : Hid (AllBytes ((wq.alloc (.cells #[.slice va L[i].b.length vc, .slice a2 l.length c2] 32)).drew) [.slice va L[i].b.length vc, .slice a2 l.length c2] [L[i].b, l]) := allBytes_cons (by have := HXB.out; rw [HVE.out] at this; exact this.below HBW.out) (allBytes_one (HBq.out.below HBW.out))
        have hbl : L[i].b.length ≤ 1073741824 := by
          have h1 := sumR_take_le L (i + 1)
          rw [sumR_take_succ L i hi] at h1
          omega
        have HSW : Hid (wq.heap.size ≤ ((wq.alloc (.cells #[.slice va L[i].b.length vc, .slice a2 l.length c2] 32)).drew).heap.size) := HBW.out.size
        have hxl : xd < wq.heap.size := HHq.out.obj.lt
        have hgl : g < wq.heap.size := (own_lt HHq.out.row g rfl).2
        go_region_with (go_at_call 33; refine (ref_join (some ⟨wq.heap.size, 0, none⟩) 2 [.slice va L[i].b.length vc, .slice a2 l.length c2] [L[i].b, l] _ HRW.out HAW.out (by simp; omega) (by simp)).mono ?_; rintro e w3 ⟨v, rfl, hov, hb⟩; obtain ⟨va3, vc3, rfl, -, -⟩ := owns_row hov; have HOV := hid hov; have HB3 : Hid (Below wq.heap.size wq w3) := HBW.out.trans (hb.mono HSW.out); have cz := (HB3.out.cell (p := ⟨g, i * 3 + 1, none⟩) hgl).trans hc1; have fz := (owns_below HHq.out.row HB3.out).frozenAt (i * 3 + 1); have x3 := (HB3.out.cell (p := ⟨xd, 1, none⟩) hxl).trans x1; clear hov hb)
        all_goals
          have hov' : w3.ownsRow ((wq.alloc (.cells #[.slice va L[i].b.length vc, .slice a2 l.length c2] 32)).drew).heap.size 5 1 (.slice va3 (L[i].b.length + l.length) vc3) (L[i].b ++ l).length ((L[i].b ++ l).map byt) := by simpa using HOV.out
          have HP := hid (rap_set HQ.out HHq.out HB3.out hi HNI.out hov' HSW.out (Below.refl _ _))
          clear hov' cz fz x3
          go_wp2_with fail
          go_ret
          rw [show code = 0 from HCC.out, HR0.out HCC.out]
          exact HP.out
end Go.Proofs.Ytibhkkfbhbnmeaa
