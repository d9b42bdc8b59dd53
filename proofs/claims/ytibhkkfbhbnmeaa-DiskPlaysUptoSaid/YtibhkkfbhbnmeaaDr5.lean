/-
  The document's disk: drop, Remove, Rename.
-/
import Derived.Test.YtibhkkfbhbnmeaaDr4
namespace Go.Proofs.Ytibhkkfbhbnmeaa
open Go.RowKit
set_option maxRecDepth 20000
set_option linter.unusedVariables false

def ListPost (w : World) (xd : Nat) (cap : Int) (B : Nat) (L' : List Fr) (e : Ending) (w' : World) : Prop :=
  e = .returned (.tuple #[]) ∧ ∃ lv', RfD w' xd cap B lv' L' ∧ (∀ k, lv'.ownBlock = some k → w.heap.size ≤ k) ∧ KeptS (fun k => k = xd) w w'
theorem own_slice {w : World} {base : Nat} {e : TypeId} {size n : Nat} {v : Value} {xs : List Value} (h : w.ownsRow base e size v n xs) : v.oneCell' = true := by
  obtain ⟨a, c, rfl, -⟩ := owns_row h
  rfl
theorem RfD.one {w : World} {xd B : Nat} {cap : Int} {lv : Value} {L : List Fr} (h : RfD w xd cap B lv L) : ∀ u ∈ L.flatMap frC, u.oneCell' = true := fun u hu => by
  obtain ⟨x, hx, hu⟩ := List.mem_flatMap.1 hu
  simp only [frC, List.mem_cons, List.not_mem_nil, or_false] at hu
  rcases hu with rfl | rfl | rfl
  · rfl
  · exact own_slice (h.bs x hx)
  · rfl
theorem frC_total (L : List Fr) : (L.flatMap frC).length = L.length * 3 := by
  induction L with
  | nil => rfl
  | cons x L ih => rw [List.flatMap_cons, List.length_append, ih, frC_len, List.length_cons]; omega
theorem frC_take (L : List Fr) (i : Nat) : (L.take i).flatMap frC = (L.flatMap frC).take (i * 3) := by
  induction L generalizing i with
  | nil => simp
  | cons x L ih =>
    cases i with
    | zero => simp
    | succ i => rw [List.take_succ_cons, List.flatMap_cons, List.flatMap_cons, ih, List.take_append, frC_len, show (i + 1) * 3 - 3 = i * 3 by omega, List.take_of_length_le (l := frC x) (by rw [frC_len]; omega)]
theorem frC_drop (L : List Fr) (i : Nat) : (L.drop i).flatMap frC = (L.flatMap frC).drop (i * 3) := by
  induction L generalizing i with
  | nil => simp
  | cons x L ih =>
    cases i with
    | zero => simp
    | succ i => rw [List.drop_succ_cons, List.flatMap_cons, ih, List.drop_append, frC_len, show (i + 1) * 3 - 3 = i * 3 by omega, List.drop_of_length_le (l := frC x) (by rw [frC_len]; omega), List.nil_append]

theorem moved_xd {w w' : World} {xd : Nat} {lv lv' : Value} {L L' : List Fr} (hk : KeptS (fun k => k = xd) w w') (hf : ∀ k, lv'.ownBlock = some k → lv.ownBlock = some k ∨ w.heap.size ≤ k) (hsub : ∀ x ∈ L', ∃ y ∈ L, x.v = y.v) : RMoved w w' xd lv L lv' L' := by
  refine ⟨fun k hk => ?_, hk.imp (fun k e => .inl e)⟩
  rcases hk with rfl | e | ⟨x, hx, e⟩
  · exact .inl (.inl rfl)
  · rcases hf k e with h | h
    · exact .inl (.inr (.inl h))
    · exact .inr h
  · obtain ⟨y, hy, he⟩ := hsub x hx
    exact .inl (.inr (.inr ⟨y, hy, by rw [← he]; exact e⟩))
theorem erase_filter : ∀ (L : List Fr) (i : Nat) (hi : i < L.length), (L.map Fr.nm).Nodup → L.eraseIdx i = L.filter (fun x => decide (x.nm ≠ L[i].nm))
  | [], i, hi, _ => by simp at hi
  | x :: L, 0, hi, hn => by
    simp only [List.map_cons, List.nodup_cons] at hn
    rw [List.eraseIdx_cons_zero]
    symm
    rw [List.filter_cons_of_neg (by simp)]
    refine List.filter_eq_self.2 (fun y hy => ?_)
    simp only [List.getElem_cons_zero, decide_eq_true_eq]
    intro e
    exact hn.1 (List.mem_map.2 ⟨y, hy, e⟩)
  | x :: L, i + 1, hi, hn => by
    simp only [List.map_cons, List.nodup_cons] at hn
    have hi' : i < L.length := by simpa using hi
    have ih := erase_filter L i hi' hn.2
    rw [List.eraseIdx_cons_succ, ih]
    symm
    rw [List.filter_cons_of_pos]
    · simp
    · simp only [List.getElem_cons_succ, decide_eq_true_eq]
      intro e
      exact hn.1 (List.mem_map.2 ⟨L[i], List.getElem_mem hi', e.symm⟩)
theorem Rel.drop {L : List Fr} {X : List Ab} (h : Rel L X) {i : Nat} (hi : i < L.length) {nm : List UInt8} (hnm : L[i].nm = nm) : Rel (L.eraseIdx i) (delA X nm) := by
  refine ⟨?_, h.2.sublist ((List.eraseIdx_sublist _ _).map _)⟩
  rw [erase_filter L i hi h.nodup, hnm]
  have : absR (L.filter fun x => decide (x.nm ≠ nm)) = (absR L).filter (fun a => decide (a.1 ≠ nm)) := by
    unfold absR
    rw [List.filter_map]; rfl
  rw [this]
  exact h.1.filter _
theorem delA_none {X : List Ab} {nm : List UInt8} (h : X.any (fun a => decide (a.1 = nm)) = false) : delA X nm = X := by
  unfold delA
  refine List.filter_eq_self.2 (fun a ha => ?_)
  have := List.any_eq_false.1 h a ha
  simpa using this
theorem Rel.none {L : List Fr} {X : List Ab} (h : Rel L X) {nm : List UInt8} (hn : findR L nm < 0) : Rel L (delA X nm) := by
  rw [delA_none (by rw [h.any]; simp only [decide_eq_false_iff_not]; omega)]
  exact h
theorem findR_at {L : List Fr} {nm : List UInt8} (h : ¬ findR L nm < 0) : ∃ i, ∃ hi : i < L.length, findR L nm = i ∧ L[i].nm = nm := by
  cases hf : L.findIdx? (fun x => x.nm == nm) with
  | none => exact absurd (findR_none hf) (by omega)
  | some i =>
    have hfe := findR_some hf
    rw [List.findIdx?_eq_some_iff_getElem] at hf
    obtain ⟨hi, he, -⟩ := hf
    exact ⟨i, hi, hfe, by simpa using he⟩
theorem Rel.ins0 {L : List Fr} {X : List Ab} {f : Fr} (h : Rel L X) (hn : findR L f.nm < 0) : Rel (insR L f) (X ++ [(f.nm, f.b, f.safe)]) := by
  have h2 := Rel.ins (f := { f with safe := 0 }) h hn rfl
  have e : ∀ (L : List Fr), (insR L { f with safe := 0 }).map Fr.nm = (insR L f).map Fr.nm := by
    intro L
    induction L with
    | nil => rfl
    | cons x L ih =>
      unfold insR
      by_cases hc : f.nm < x.nm
      · rw [if_pos hc, if_pos hc]; rfl
      · rw [if_neg hc, if_neg hc, List.map_cons, List.map_cons, ih]
  refine ⟨?_, by rw [← e]; exact h2.2⟩
  have hp : ∀ (L : List Fr), (absR (insR L f)).Perm ((f.nm, f.b, f.safe) :: absR L) := by
    intro L
    induction L with
    | nil => exact List.Perm.refl _
    | cons x L ih =>
      unfold insR
      split
      · exact List.Perm.refl _
      · exact (ih.cons (x.nm, x.b, x.safe)).trans (List.Perm.swap _ _ _)
  exact ((hp L).trans (h.1.cons _)).trans (List.perm_append_singleton _ _).symm
theorem put_perm : ∀ (X : List Ab) (y : Ab), (X.map Prod.fst).Nodup → X.any (fun a => decide (a.1 = y.1)) = true → (delA X y.1 ++ [y]).Perm (X.map fun a => if a.1 = y.1 then y else a)
  | [], y, _, h => by simp at h
  | a :: X, y, hn, h => by
    simp only [List.map_cons, List.nodup_cons] at hn
    by_cases e : a.1 = y.1
    · have hno : ∀ b ∈ X, b.1 ≠ y.1 := fun b hb e2 => hn.1 (List.mem_map.2 ⟨b, hb, by rw [e2, e]⟩)
      have h1 : delA (a :: X) y.1 = X := by
        unfold delA
        rw [List.filter_cons_of_neg (by simpa using e)]
        exact List.filter_eq_self.2 (fun b hb => by simpa using hno b hb)
      have h2 : (a :: X).map (fun a => if a.1 = y.1 then y else a) = y :: X := by
        rw [List.map_cons, if_pos e]
        congr 1
        exact (List.map_congr_left (fun b hb => if_neg (hno b hb))).trans (List.map_id _)
      rw [h1, h2]
      exact List.perm_append_singleton _ _
    · have h1 : delA (a :: X) y.1 = a :: delA X y.1 := by
        unfold delA
        rw [List.filter_cons_of_pos (by simpa using e)]
      rw [h1, List.map_cons, if_neg e, List.cons_append]
      exact (put_perm X y hn.2 (by simpa [e] using h)).cons a
/-- Behind a renaming. -/
theorem Rel.put {L : List Fr} {X : List Ab} (h : Rel L X) {f : Fr} (hd : ∀ i, ∀ hi : i < L.length, L[i].nm = f.nm → findR (L.eraseIdx i) f.nm < 0) :
    (findR L f.nm < 0 → Rel (insR L f) (putA X (f.nm, f.b, f.safe))) ∧ (∀ i, ∀ hi : i < L.length, L[i].nm = f.nm → Rel (insR (L.eraseIdx i) f) (putA X (f.nm, f.b, f.safe))) := by
  have hnx : (X.map Prod.fst).Nodup := ((h.1.map Prod.fst).nodup_iff).1 (by rw [← names_absR]; exact h.nodup)
  refine ⟨fun hn => ?_, fun i hi he => ?_⟩
  · have := h.ins0 hn
    unfold putA
    rw [if_neg (by rw [h.any]; simp only [decide_eq_true_eq]; omega)]
    exact this
  · have h1 := (h.drop hi he).ins0 (f := f) (hd i hi he)
    have hany : X.any (fun a => decide (a.1 = f.nm)) = true := List.any_eq_true.2 ⟨_, h.1.mem_iff.1 (List.mem_map.2 ⟨L[i], List.getElem_mem hi, rfl⟩), by simpa using he⟩
    unfold putA
    rw [if_pos hany]
    exact ⟨h1.1.trans (put_perm X (f.nm, f.b, f.safe) hnx hany), h1.2⟩
theorem find_erased {L : List Fr} (hn : (L.map Fr.nm).Nodup) {i : Nat} (hi : i < L.length) {nm : List UInt8} (he : L[i].nm = nm) : findR (L.eraseIdx i) nm < 0 := by
  have : (L.eraseIdx i).findIdx? (fun x => x.nm == nm) = none := by
    rw [List.findIdx?_eq_none_iff]
    intro x hx
    rw [erase_filter L i hi hn] at hx
    have := (List.mem_filter.1 hx).2
    rw [he] at this
    simpa using this
  rw [findR_none this]; decide

theorem fin_list {w W : World} {xd B : Nat} {cap : Int} {lv ov : Value} {L xs : List Fr} (h : RfD w xd cap B lv L) (hb : Below w.heap.size w W) (how : W.ownsRow w.heap.size 43 3 ov xs.length (xs.flatMap frC)) (hsub : ∀ x ∈ xs, x ∈ L) :
    ListPost w xd cap B xs (.returned (.tuple #[])) (W.setCell ⟨xd, 1, none⟩ ov) := by
  have hA := h.below hb
  have hk : KeptS (fun k => k = xd) W (W.setCell ⟨xd, 1, none⟩ ov) := KeptS.set W ⟨xd, 1, none⟩ ov rfl
  have hx := h.obj.lt
  have hoff : ∀ g, ov.ownBlock = some g → ¬ g = xd := fun g e => by have := (own_lt how g e).1; omega
  refine ⟨rfl, ov, ⟨hA.obj.set 1 ov, owns_base (own_keptS how hk hoff) (Nat.le_trans h.bx (Nat.le_of_lt hx)), fun x hx => ?_, h.bx⟩, fun k e => (own_lt how k e).1, (KeptS.of_below hb).next hk⟩
  exact own_keptS (hA.bs x (hsub x hx)) hk (fun k e => by
    obtain ⟨cur, hc⟩ := own_typed (hA.bs x (hsub x hx)) e
    exact hc.ne_obj hA.obj (by decide))
set_option maxHeartbeats 2000000 in
theorem refd_drop (xd B : Nat) (cap : Int) (lv : Value) (L : List Fr) (i : Nat) (w : World) (h : RfD w xd cap B lv L) (hl : L.length ≤ 1048576) (hi : i < L.length) :
    Calls Try.prog 39 #[.pointer (some ⟨xd, 0, none⟩), .int .i64 i] w (ListPost w xd cap B (L.eraseIdx i)) := by
  obtain ⟨a, c, hlv, hrow⟩ := h.len
  subst hlv
  obtain ⟨g, hga, -, hgl⟩ := own_some h.row (by omega : 0 < L.length)
  subst hga
  have hcl : L.length ≤ c := by
    obtain ⟨a', c', e, -, h1, -⟩ := owns_row h.row
    cases e; exact h1
  have hcm : c ≤ maxLen := by
    obtain ⟨a', c', e, -, -, h1⟩ := owns_row h.row
    cases e; exact h1
  have hcm9 : c ≤ 9223372036854775807 := by unfold maxLen at hcm; exact hcm
  have HH := hid h
  have HR1 : Hid (RowAt w (some ⟨g, 0, none⟩) ((L.take i).flatMap frC)) := by
    show RowAt _ _ _
    rw [frC_take]; exact hrow.take _
  have HL1 : Hid (((L.take i).flatMap frC).length = i * 3) := by
    show _ = _
    rw [frC_total, List.length_take]; omega
  have HO1 : Hid (∀ u ∈ (L.take i).flatMap frC, u.oneCell' = true) := fun u hu => h.one u (by rw [frC_take] at hu; exact List.mem_of_mem_take hu)
  have HO2 : Hid (∀ u ∈ (L.drop (i + 1)).flatMap frC, u.oneCell' = true) := fun u hu => h.one u (by rw [frC_drop] at hu; exact List.mem_of_mem_drop hu)
  have HL2 : Hid (((L.drop (i + 1)).flatMap frC).length = (L.length - (i + 1)) * 3) := by
    show _ = _
    rw [frC_total, List.length_drop]
  have x1 := h.obj.cell 1 (.slice (some ⟨g, 0, none⟩) L.length c) rfl
  have hxl := h.obj.lt
  clear h hrow
  go_enter Try.func39, Try.ntmps39
  go_wp2_with (at_builtin; refine wpList_app rfl (.tmp 5) (.tmp 11) 28 rfl w.heap.size 43 Try.underlying28 infoFr rfl (by omega) _ 0 [] rfl ⟨rfl, .inl ⟨rfl, rfl⟩⟩ (some ⟨g, 0, none⟩) i c ((L.take i).flatMap frC) rfl HL1.out HR1.out HO1.out (by unfold maxLen; omega) (by omega) (Nat.le_refl _) (fun e => by cases e) ?_; intro v1 w1 ho1 hg1 _; refine Stop.mk ?_)
  refine Stop.go ?_
  have HB1 : Hid (Below w.heap.size w w1) := (Below.refl w.heap.size w).grown hg1 (Nat.le_refl _) (fun k hk => by cases hk)
  rw [Nat.zero_add, List.nil_append] at ho1
  have HV1 := hid ho1
  have HH1 := hid (HH.out.below HB1.out)
  have x2 := HH1.out.obj.cell 1 (.slice (some ⟨g, 0, none⟩) L.length c) rfl
  have f2 := HH1.out.obj.frozen 1
  have hs1 := HB1.out.size
  clear ho1 hg1 x1
  obtain ⟨va, vc, rfl, -, -⟩ := owns_row HV1.out
  by_cases hci : c = i + 1
  · have hd : Hid (L.drop (i + 1) = []) := List.drop_of_length_le (by omega)
    have HRN : Hid (RowAt w1 (some ⟨g, 0, none⟩) ((L.drop (i + 1)).flatMap frC)) := by
      show RowAt _ _ _
      rw [hd.out]; exact RowAt.nil _ _
    go_wp2_with (at_builtin; refine wpList_app rfl (.tmp 14) (.tmp 21) 28 rfl w.heap.size 43 Try.underlying28 infoFr rfl (by omega) _ i ((L.take i).flatMap frC) rfl HV1.out (some ⟨g, 0, none⟩) (L.length - (i + 1)) 0 ((L.drop (i + 1)).flatMap frC) rfl HL2.out HRN.out HO2.out (by unfold maxLen; omega) (by omega) hs1 (fun e => by cases e) ?_; intro v2 w2 ho2 hg2 _; refine Stop.mk ?_)
    refine Stop.go ?_
    have hb2 : Below w.heap.size w w2 := below_app HB1.out HV1.out hg2 (Nat.le_refl _) hs1
    have hrow2 : w2.ownsRow w.heap.size 43 3 v2 (L.eraseIdx i).length ((L.eraseIdx i).flatMap frC) := by
      rw [List.eraseIdx_eq_take_drop_succ, List.flatMap_append, List.length_append, List.length_take, List.length_drop, Nat.min_eq_left (by omega)]
      exact ho2
    obtain ⟨ua, uc, rfl, -, -⟩ := owns_row ho2
    have HP := hid (fin_list HH.out hb2 hrow2 (fun x hx => List.mem_of_mem_eraseIdx hx))
    have x3 := (HH.out.below hb2).obj.cell 1 (.slice (some ⟨g, 0, none⟩) L.length c) rfl
    have f3 := (HH.out.below hb2).obj.frozen 1
    clear ho2 hg2 hb2 hrow2 x2 f2
    go_wp2_with fail
    go_end0
    exact HP.out
  · have HRN : Hid (RowAt w1 (some ⟨g, (i + 1) * 3, none⟩) ((L.drop (i + 1)).flatMap frC)) := by
      show RowAt _ _ _
      rw [frC_drop]
      obtain ⟨a', c', e, hr', -⟩ := owns_row HH1.out.row
      cases e
      exact hr'.drop _ (fun _ b o e => by cases e; rw [Nat.zero_add])
    go_wp2_with (at_builtin; refine wpList_app rfl (.tmp 14) (.tmp 21) 28 rfl w.heap.size 43 Try.underlying28 infoFr rfl (by omega) _ i ((L.take i).flatMap frC) rfl HV1.out (some ⟨g, (i + 1) * 3, none⟩) (L.length - (i + 1)) (c - (i + 1)) ((L.drop (i + 1)).flatMap frC) rfl HL2.out HRN.out HO2.out (by unfold maxLen; omega) (by omega) hs1 (fun e => by cases e) ?_; intro v2 w2 ho2 hg2 _; refine Stop.mk ?_)
    refine Stop.go ?_
    have hb2 : Below w.heap.size w w2 := below_app HB1.out HV1.out hg2 (Nat.le_refl _) hs1
    have hrow2 : w2.ownsRow w.heap.size 43 3 v2 (L.eraseIdx i).length ((L.eraseIdx i).flatMap frC) := by
      rw [List.eraseIdx_eq_take_drop_succ, List.flatMap_append, List.length_append, List.length_take, List.length_drop, Nat.min_eq_left (by omega)]
      exact ho2
    obtain ⟨ua, uc, rfl, -, -⟩ := owns_row ho2
    have HP := hid (fin_list HH.out hb2 hrow2 (fun x hx => List.mem_of_mem_eraseIdx hx))
    have x3 := (HH.out.below hb2).obj.cell 1 (.slice (some ⟨g, 0, none⟩) L.length c) rfl
    have f3 := (HH.out.below hb2).obj.frozen 1
    clear ho2 hg2 hb2 hrow2 x2 f2
    go_wp2_with fail
    go_end0
    exact HP.out
end Go.Proofs.Ytibhkkfbhbnmeaa
