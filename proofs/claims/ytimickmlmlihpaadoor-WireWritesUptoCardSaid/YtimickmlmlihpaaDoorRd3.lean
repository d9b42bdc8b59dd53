/-
  althingref01.Reader: Num, Blob, Left.
-/
import Derived.Test.YtimickmlmlihpaaDoorRd2
namespace Go.Proofs.YtimickmlmlihpaaDoor
open Go.RowKit
set_option maxRecDepth 100000
set_option linter.unusedVariables false

theorem isBytes_ne {w : World} {v : Value} {l : List UInt8} {r : Nat} {t : TypeId} {cs : Array Value} (h : IsBytes w v l) (ho : ObjAt w r t cs) (hc : ∀ x ∈ cs.toList, ∀ z, x ≠ .int .u8 z) : l ≠ [] → ∀ k, v.ownBlock = some k → k ≠ r := by
  intro hl k hk e
  subst e
  obtain ⟨a, c, rfl, hr, -⟩ := h
  cases l with
  | nil => exact hl rfl
  | cons x l =>
    obtain ⟨b, o, rfl, hcell⟩ := hr 0 (byt x) rfl
    simp only [Value.ownBlock, Option.some.injEq] at hk
    subst hk
    unfold ObjAt at ho
    unfold World.cell? at hcell
    rw [ho] at hcell
    have hm : (byt x) ∈ cs.toList := by
      have h2 : cs[o + 0]? = some (byt x) := by simpa using hcell
      rw [← Array.getElem?_toList] at h2
      exact List.mem_of_getElem? h2
    exact hc _ hm _ rfl
theorem isBytes_keptE {w w' : World} {v : Value} {l : List UInt8} {r : Nat} {t : TypeId} {cs : Array Value} (h : IsBytes w v l) (ho : ObjAt w r t cs) (hc : ∀ x ∈ cs.toList, ∀ z, x ≠ .int .u8 z) (hk : Kept w.heap.size r w w') : IsBytes w' v l := by
  have hne := isBytes_ne h ho hc
  obtain ⟨a, c, rfl, hr, h0, h1, h2⟩ := h
  refine ⟨a, c, rfl, ?_, h0, h1, h2⟩
  cases l with
  | nil => exact RowAt.nil _ _
  | cons x l => exact hr.kept hk (fun ad e => hne (by simp) _ (by rw [e]; rfl))
theorem rd_cells {v : Value} {l : List UInt8} {w : World} (h : IsBytes w v l) (e : Int) : ∀ x ∈ (#[v, Value.int .i64 e] : Array Value).toList, ∀ z, x ≠ .int .u8 z := by
  obtain ⟨a, c, rfl, -⟩ := h
  intro x hx z
  simp only [List.mem_cons, List.not_mem_nil, or_false] at hx
  rcases hx with rfl | rfl <;> simp
theorem rf_cells {v : Value} {l : List UInt8} {w : World} (h : IsBytes w v l) (e e' : Int) : ∀ x ∈ (#[v, Value.int .i64 e, Value.int .i64 e'] : Array Value).toList, ∀ z, x ≠ .int .u8 z := by
  obtain ⟨a, c, rfl, -⟩ := h
  intro x hx z
  simp only [List.mem_cons, List.not_mem_nil, or_false] at hx
  rcases hx with rfl | rfl | rfl <;> simp
/-- The document's reader at d, over the bytes B, has s left. -/
def RfAt (w : World) (d : Nat) (B : List UInt8) (s : RSt) : Prop := ∃ v at_, ObjAt w d 43 #[v, .int .i64 (at_ : Nat), .int .i64 s.2] ∧ IsBytes w v B ∧ at_ ≤ B.length ∧ s.1 = B.drop at_
theorem RfAt.kept {w w' : World} {d r : Nat} {B : List UInt8} {s : RSt} (h : RfAt w d B s) (hk : Kept w.heap.size r w w') (hd : d ≠ r) (hB : ∀ v, IsBytes w v B → IsBytes w' v B) : RfAt w' d B s := by
  obtain ⟨v, a, h1, h2, h3, h4⟩ := h
  exact ⟨v, a, h1.kept hk hd, hB v h2, h3, h4⟩
theorem decodeAt_drop (B : List UInt8) (n : Nat) (h : n ≤ B.length) : decodeAt B n = if (decode (B.drop n)).2.2 = 0 then (((decode (B.drop n)).1 : Int), ((n + (decode (B.drop n)).2.1 : Nat) : Int), 0) else (0, 0, ((decode (B.drop n)).2.2 : Int)) := by
  unfold decodeAt
  rw [if_pos ⟨by omega, by omega⟩, Int.toNat_natCast]
  split <;> simp

set_option maxHeartbeats 3200000 in
theorem rf_num (d : Nat) (B : List UInt8) (s : RSt) (w : World) (h : RfAt w d B s) :
    Calls Tryd.prog 17 #[.pointer (some ⟨d, 0, none⟩)] w fun e w' => e = .returned (.int .i64 (rdNum s).1) ∧ RfAt w' d B (rdNum s).2 ∧ Kept w.heap.size d w w' := by
  have HH := hid h
  obtain ⟨l, er⟩ := s
  obtain ⟨v, n, ho, hb, hn, hl⟩ := h
  dsimp only at ho hl
  by_cases he : er = 0
  · subst he
    have HQ : Hid (rdNum (l, 0) = (((decode l).1 : Int), l.drop (decode l).2.1, ((decode l).2.2 : Int))) := by
      show _ = _
      unfold rdNum
      rw [if_pos rfl]
    obtain ⟨q, hq⟩ : ∃ q, q = rdNum (l, 0) := ⟨_, rfl⟩
    rw [← hq] at HQ ⊢
    have HD := hid (decodeAt_drop B n hn)
    rw [← hl] at HD
    have HB := hid hb
    have HO := hid ho
    have HL := hid hl
    have c0 := ho.cell 0 _ rfl
    have c1 := ho.cell 1 _ rfl
    have c2 := ho.cell 2 _ rfl
    have f1 := ho.frozen 1
    have f2 := ho.frozen 2
    obtain ⟨va, vc, rfl, -⟩ := id hb
    have HC := hid (fun q => (ref_number (.slice va B.length vc) B n (w.drewN q) (HB.out.below (below_drewN' q))).mono fun e w' h => (⟨h.1, h.2.symm⟩ : e = .returned (.tuple #[.int .i64 (decodeAt B n).1, .int .i64 (decodeAt B n).2.1, .int .i64 (decodeAt B n).2.2]) ∧ w' = w.drewN q))
    clear HH hb ho hq hl
    go_enter Tryd.func17, Tryd.ntmps17
    go_wp2_with fail
    go_quiet ((go_at_call 33; exact Calls.quiet_of_same (HC.out _)))
    rw [HD.out]
    have HW := hid (below_drewN' (B := w.heap.size) (w := w) nq)
    have HO1 := hid (HO.out.below HW.out)
    have HB1 := hid (HB.out.below HW.out)
    rcases decode_cases l with ⟨m, u, hd, hu, hm⟩ | ⟨e, hd, he⟩
    · have HDC := hid hd
      rw [hd, if_pos rfl]
      clear hd HD
      have hk := Kept.set (B := w.heap.size) (w.drewN nq) ⟨d, 1, none⟩ (.int .i64 ((n + u : Nat) : Int))
      have hll : n + u ≤ B.length := by
        have h := HL.out
        rw [h, List.length_drop] at hu; omega
      have Q1 : Hid (RfAt ((w.drewN nq).setCell ⟨d, 1, none⟩ (.int .i64 ((n + u : Nat) : Int))) d B (l.drop u, 0)) :=
        ⟨_, n + u, HO1.out.set 1 _, isBytes_keptE HB1.out HO1.out (rf_cells HB1.out _ _) hk, hll, by rw [HL.out, List.drop_drop]⟩
      have Q2 := hid ((Kept.of_below HW.out).trans hk)
      clear hk HO1 HB1 HO HB HL
      obtain ⟨nu, hnu⟩ : ∃ nu, nu = n + u := ⟨_, rfl⟩
      rw [← hnu] at Q1 Q2 hll ⊢
      clear hnu
      go_wp2
      go_ret
      rw [HQ.out, HDC.out]
      exact ⟨rfl, Q1.out, Q2.out⟩
    · have HDC := hid hd
      rw [hd, if_neg he]
      clear hd HD
      have hk := Kept.set (B := w.heap.size) (w.drewN nq) ⟨d, 2, none⟩ (.int .i64 (e : Int))
      have Q1 : Hid (RfAt ((w.drewN nq).setCell ⟨d, 2, none⟩ (.int .i64 (e : Int))) d B (l, (e : Int))) :=
        ⟨_, n, HO1.out.set 2 _, isBytes_keptE HB1.out HO1.out (rf_cells HB1.out _ _) hk, hn, HL.out⟩
      have Q2 := hid ((Kept.of_below HW.out).trans hk)
      have e1 : ((e : Int) == 0) = false := beq_eq_false_iff_ne.2 (by omega)
      clear hk HO1 HB1 HO HB HL he
      go_wp2
      go_ret
      rw [HQ.out, HDC.out]
      exact ⟨rfl, Q1.out, Q2.out⟩
  · have HE : Hid (rdNum (l, er) = (0, l, er)) := by
      show _ = _
      unfold rdNum
      rw [if_neg he]
    have c2 := ho.cell 2 _ rfl
    rw [HE.out]
    clear ho hb
    have e1 : (er == 0) = false := beq_eq_false_iff_ne.2 he
    go_enter Tryd.func17, Tryd.ntmps17
    go_wp2
    go_ret
    exact ⟨rfl, HH.out, Kept.refl _ _ _⟩

theorem rf_left (d : Nat) (B : List UInt8) (s : RSt) (w : World) (h : RfAt w d B s) : Calls Tryd.prog 23 #[.pointer (some ⟨d, 0, none⟩)] w fun e w' => e = .returned (.int .i64 s.1.length) ∧ ∃ n, w' = w.drewN n := by
  obtain ⟨v, n, ho, ⟨a, c, rfl, hr, h0, h1, h2⟩, hn, hl⟩ := h
  have c0 := ho.cell 0 _ rfl
  have c1 := ho.cell 1 _ rfl
  have HL : Hid (s.1.length = B.length - n) := by show _ = _; rw [hl, List.length_drop]
  clear ho hr hl
  unfold maxLen at h2
  go_enter Tryd.func23, Tryd.ntmps23
  go_wp2
  go_region
  all_goals (go_wp2; go_ret; exact ⟨ret_v (int_v (by rw [HL.out]; omega)), 1, rfl⟩)
end Go.Proofs.YtimickmlmlihpaaDoor
