/-
  Ack, Drop.
-/
import Derived.Test.YtjnbflhpboheiaaDoorWtK
namespace Go.Proofs.YtjnbflhpboheiaaDoor
open Go.RowKit Go.ChangeMaps
set_option maxRecDepth 20000
set_option linter.unusedVariables false

def acks (A : List Da) (k : List UInt8 × Int) (n : Int) : Int := if n < 0 ∨ lastA A k < n then 161 else 0
def ackH (A : List Da) (k : List UInt8 × Int) (n : Int) : List Da := if acks A k n = 0 then (match seekA A k with | none => A | some a => setA A (ackA a n)) else A
def AckP (w : World) (hb mh : Nat) (D : List Dk) (k : List UInt8 × Int) (n : Int) (e : Ending) (w' : World) : Prop :=
  e = .returned (.int .i64 (acks (absD D) k n)) ∧ ∃ D', HubT w' hb mh D' ∧ MovedH w w' hb mh D D' ∧ absD D' = ackH (absD D) k n
theorem AckP.no {w w' : World} {hb mh : Nat} {D : List Dk} {k : List UInt8 × Int} {n : Int} (h : HubT w hb mh D) (hb' : Below w.heap.size w w') (ha : ackH (absD D) k n = absD D) : AckP w hb mh D k n (.returned (.int .i64 (acks (absD D) k n))) w' :=
  ⟨rfl, D, h.below hb', MovedH.below hb', ha.symm⟩

set_option maxHeartbeats 2000000 in
theorem hub_Ack (hb mh : Nat) (D : List Dk) (k : List UInt8 × Int) (n : Int) (w : World) (h : HubT w hb mh D) (hm : ∀ a ∈ absD D, a.ev.length ≤ 1073741824) :
    Calls Tryd.prog 14 #[.pointer (some ⟨hb, 0, none⟩), .agg #[tkey k.1, .int .i64 k.2], .int .i64 n] w (AckP w hb mh D k n) := by
  have HH := hid h
  have HOK := hid hm
  clear h hm
  have HK := hid (ObjAt.new w 28 #[tkey k.1, .int .i64 k.2])
  have HB := hid (below_new (w := w) (.cells #[tkey k.1, .int .i64 k.2] 28))
  have HT := hid (HH.out.below HB.out)
  have k0 := HK.out.cell 0 (tkey k.1) rfl
  have k1 := HK.out.cell 1 (.int .i64 k.2) rfl
  go_enter Tryd.func14, Tryd.ntmps14
  go_wp2_with fail
  refine (hub_Cursor hb mh D k _ HT.out).mono ?_
  rintro e2 w2 ⟨rfl, hb2⟩
  have HK2 := hid (HK.out.below hb2)
  have HB2 := hid (below_next HB.out hb2)
  have HT2 := hid (HT.out.below hb2)
  clear hb2 HK HB HT k0 k1
  change Hid (ObjAt w2 w.heap.size 28 #[tkey k.1, .int .i64 k.2]) at HK2
  generalize w.heap.size = kb at HK2 ⊢
  obtain ⟨la, hla⟩ : ∃ la, lastA (absD D) k = la := ⟨_, rfl⟩
  have HLA := hid hla
  rw [hla]
  clear hla
  by_cases hbad : n < 0 ∨ la < n
  · have HEND : Hid (AckP w hb mh D k n (.returned (.int .i64 161)) w2) := by
      have e : acks (absD D) k n = 161 := by unfold acks; rw [HLA.out, if_pos hbad]
      have := AckP.no HH.out HB2.out (k := k) (n := n) (by unfold ackH; rw [if_neg (by rw [e]; decide)])
      rw [e] at this; exact this
    rcases (by omega : n < 0 ∨ ¬ n < 0 ∧ la < n) with h1 | ⟨h1, h2⟩
    · go_wp2_with fail
      go_ret
      exact HEND.out
    · go_wp2_with fail
      go_ret
      exact HEND.out
  · have e0 : acks (absD D) k n = 0 := by unfold acks; rw [HLA.out, if_neg hbad]
    have HE0 := hid e0
    have hn1 : ¬ n < 0 := by omega
    have hn2 : ¬ la < n := by omega
    have k0 := HK2.out.cell 0 (tkey k.1) rfl
    have k1 := HK2.out.cell 1 (.int .i64 k.2) rfl
    have c0 := HT2.out.hub.cell 0 (.map (some mh)) rfl
    have HTd : Hid (HubT w2.drew hb mh D) := HT2.out.below (Below.refl _ _).drew
    have HBd := hid (HB2.out.trans ((Below.refl w.heap.size w2).drew))
    have l0 := run_look (P := Tryd.prog) Tryd.underlying53 KeyOk.skey HTd.out.map k (.pointer none) (by kernel_rfl) false
    rw [look_seekD] at l0
    clear hbad e0
    cases hs : seekD D k with
    | none =>
      rw [hs] at l0
      have l1 : (Instr.lookup 53 (.map (some mh)) (.agg #[tkey k.1, .int .i64 k.2]) false).run Tryd.prog w2.drew = .ok (.pointer none) w2.drew := l0
      have HEND : Hid (AckP w hb mh D k n (.returned (.int .i64 0)) w2.drew) := by
        have := AckP.no HH.out HBd.out (k := k) (n := n) (by unfold ackH; rw [if_pos HE0.out, seekD_abs, hs]; rfl)
        rw [HE0.out] at this; exact this
      clear l0 hs
      go_wp2_with fail
      go_region
      go_wp2_with fail
      go_ret
      exact HEND.out
    | some x =>
      rw [hs] at l0
      have l1 : (Instr.lookup 53 (.map (some mh)) (.agg #[tkey k.1, .int .i64 k.2]) false).run Tryd.prog w2.drew = .ok (.pointer (some ⟨x.db, 0, none⟩)) w2.drew := l0
      have HS := hid (seekD_some hs)
      have HS2 := hid hs
      clear l0 hs
      go_wp2_with fail
      go_region
      clear l1 k0 k1 c0 HT2 HK2 HB2
      generalize w2.drew = w3 at *
      go_wp2_with fail
      refine (hub_ack x n _ (HTd.out.ds x HS.out.1) (HOK.out x.a (List.mem_map.2 ⟨x, HS.out.1, rfl⟩))).mono ?_
      rintro e4 w4 ⟨rfl, v', hd4, hk4, hg4⟩
      have HEND : Hid (AckP w hb mh D k n (.returned (.int .i64 0)) w4) := by
        refine ⟨by rw [HE0.out], setD D { x with v := v', a := ackA x.a n }, HTd.out.putD HS.out.1 rfl rfl rfl hd4 hk4 (fun k hk => .inl (by rw [← hg4]; exact hk)), (MovedH.below HBd.out).trans (MovedH.putD HS.out.1 rfl rfl hk4 (fun k hk => .inl (by rw [← hg4]; exact hk))), ?_⟩
        rw [abs_setD]
        unfold ackH
        rw [if_pos HE0.out, seekD_abs, HS2.out]; rfl
      clear hd4 hk4 hg4
      go_wp2_with fail
      go_ret
      exact HEND.out

def dropA (A : List Da) (k : List UInt8 × Int) : List Da := A.filter fun a => decide (a.key ≠ k)
def kC2 (k : List UInt8 × Int) : List Value := [tkey k.1, .int .i64 k.2]
theorem HubT.drop {w w' : World} {hb mh : Nat} {D : List Dk} {k : List UInt8 × Int} (h : HubT w hb mh D) (hm : MapAt w' mh skey (del (D.map dEnt) k)) (hk : Kept w.heap.size mh w w') : ∃ D', HubT w' hb mh D' ∧ MovedH w w' hb mh D D' ∧ absD D' = dropA (absD D) k := by
  have hnd : ((D.map dEnt).map (·.1)).Nodup := by
    obtain ⟨_, _, _, _, _, _, hn⟩ := h.map; exact hn
  rw [del_filter hnd, List.filter_map] at hm
  have hsub : (D.filter fun d => decide (d.a.key ≠ k)).Sublist D := List.filter_sublist
  refine ⟨D.filter fun d => decide (d.a.key ≠ k), ⟨h.hub.kept hk (h.hub.ne_map h.map), hm, fun y hy => ?_, (hsub.map _).nodup h.nb, (hsub.map _).nodup h.nm, fun y hy => h.ne y (hsub.mem hy), h.rows.sublist hsub⟩, ⟨?_, KeptS.of_kept hk (.inr (.inl rfl))⟩, ?_⟩
  · have hy' := hsub.mem hy
    refine (h.ds y hy').keptS (KeptS.of_kept (S := fun k => k = mh) hk rfl) ?_
    rintro k (rfl | rfl | e1) e
    · exact (h.ds y hy').obj.ne_map h.map e
    · exact h.ne y hy' e
    · obtain ⟨cur, ho⟩ := own_obj (h.ds y hy').row e1
      exact ho.ne_map h.map e
  · rintro i (e | e | ⟨d, hd, e⟩)
    · exact .inl (.inl e)
    · exact .inl (.inr (.inl e))
    · exact .inl (.inr (.inr ⟨d, hsub.mem hd, e⟩))
  · unfold absD dropA
    rw [List.filter_map]; rfl

set_option maxHeartbeats 2000000 in
theorem hub_Drop (hb mh : Nat) (D : List Dk) (k : List UInt8 × Int) (g c : Nat) (w : World) (h : HubT w hb mh D) (hg : ObjAt w g 28 #[tkey k.1, .int .i64 k.2]) :
    Calls Tryd.prog 27 #[.pointer (some ⟨hb, 0, none⟩), .slice (some ⟨g, 0, none⟩) 1 c] w fun e w' => e = .returned (.tuple #[]) ∧ ∃ D', HubT w' hb mh D' ∧ MovedH w w' hb mh D D' ∧ absD D' = dropA (absD D) k := by
  have HH := hid h
  have HG := hid hg
  clear h hg
  go_enter Tryd.func27, Tryd.ntmps27
  go_wp2_with fail
  go_loopw [8] (fun i wr => i = .int .i64 0 ∧ wr = w ∨ i = .int .i64 1 ∧ Hid (∃ D', HubT wr hb mh D' ∧ MovedH w wr hb mh D D' ∧ absD D' = dropA (absD D) k)) (fun i _ => 1 - (intOf i).toNat)
  case atStart => exact .inl ⟨rfl, rfl⟩
  case round =>
    rcases hrel with ⟨rfl, rfl⟩ | ⟨rfl, HE⟩
    · have g0 := HG.out.cell 0 (tkey k.1) rfl
      have g1 := HG.out.cell 1 (.int .i64 k.2) rfl
      have HK := hid (ObjAt.new wr 28 #[tkey k.1, .int .i64 k.2])
      have HB := hid (below_new (w := wr) (.cells #[tkey k.1, .int .i64 k.2] 28))
      have HT := hid (HH.out.below HB.out)
      have c0 := HT.out.hub.cell 0 (.map (some mh)) rfl
      have HTd : Hid (HubT (wr.alloc (.cells #[tkey k.1, .int .i64 k.2] 28)).drew hb mh D) := HT.out.below (Below.refl _ _).drew
      obtain ⟨W5, hdel, HM5, HK5, hz5, hd5⟩ := run_del (P := Tryd.prog) Tryd.underlying53 KeyOk.skey (w := (wr.alloc (.cells #[tkey k.1, .int .i64 k.2] 28)).drew) HTd.out.map k
      have hdel' : ∀ t1 ty, (Builtin.delete_ #[53, t1] ty #[.map (some mh), .agg #[tkey k.1, .int .i64 k.2]]).run Tryd.prog (wr.alloc (.cells #[tkey k.1, .int .i64 k.2] 28)).drew = .ok (.tuple #[]) W5 := hdel
      have k0 := HK.out.cell 0 (tkey k.1) rfl
      have k1 := HK.out.cell 1 (.int .i64 k.2) rfl
      have HEND : Hid (∃ D', HubT W5 hb mh D' ∧ MovedH wr W5 hb mh D D' ∧ absD D' = dropA (absD D) k) := by
        obtain ⟨D', h1, h2, h3⟩ := HTd.out.drop HM5 HK5
        exact ⟨D', h1, (MovedH.below (HB.out.trans ((Below.refl _ _).drew))).trans h2, h3⟩
      clear hdel HM5 HK5 hz5 hd5
      go_wp2_with fail
      go_region
      go_wp2_with fail
      go_roundw
      case rel => exact .inr ⟨rfl, HEND⟩
      case measure => simp [intOf]
    · go_wp2_with fail
      go_end0
      exact ⟨rfl, HE.out⟩
end Go.Proofs.YtjnbflhpboheiaaDoor
