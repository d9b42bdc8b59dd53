/-
  ack, Ack, Drop.
-/
import Derived.Test.YtjnbflhpboheiaaDoorDelW
import Derived.BigQuiet
namespace Go.Proofs.YtjnbflhpboheiaaDoor
open Go.RowKit Go.ChangeMaps
set_option maxRecDepth 20000
set_option linter.unusedVariables false

def ackA (a : Da) (n : Int) : Da := { a with acked := max a.acked n, ev := a.ev.filter fun x => !upTo n x }

set_option maxHeartbeats 2000000 in
theorem hub_ack (d : Dk) (n : Int) (w : World) (h : DkAt w d) (hl : d.a.ev.length ≤ 1073741824) :
    Calls Tryd.prog 23 #[.pointer (some ⟨d.db, 0, none⟩), .int .i64 n] w fun e w' => e = .returned (.tuple #[]) ∧ ∃ v', DkAt w' { d with v := v', a := ackA d.a n } ∧ KeptS (DkHas d) w w' ∧ v'.ownBlock = d.v.ownBlock := by
  have HH := hid h
  have HN := hid (ObjAt.new w 3 #[.int .i64 n])
  have HB := hid (below_new (w := w) (.cells #[.int .i64 n] 3))
  have HD := hid (h.below HB.out)
  clear h
  have c1 := HD.out.obj.cell 1 (.int .i64 d.a.acked) rfl
  have f1 := HD.out.obj.frozen 1
  have n0 := HN.out.cell 0 (.int .i64 n) rfl
  go_enter Tryd.func23, Tryd.ntmps23
  go_wp2_with fail
  go_region
  have HD2 : Hid (DkAt ((w.alloc (.cells #[.int .i64 n] 3)).setCell ⟨d.db, 1, none⟩ (.int .i64 (max d.a.acked n))).drew { d with a := { d.a with acked := max d.a.acked n } }) := by
    have hk := KeptS.set (S := fun k => k = d.db) (w.alloc (.cells #[.int .i64 n] 3)) ⟨d.db, 1, none⟩ (.int .i64 (max d.a.acked n)) rfl
    refine DkAt.below (w := (w.alloc (.cells #[.int .i64 n] 3)).setCell ⟨d.db, 1, none⟩ (.int .i64 (max d.a.acked n))) ⟨HD.out.obj.set 1 _, HD.out.marks.keptS hk (fun e => HD.out.obj.ne_map HD.out.marks e.symm), own_keptS HD.out.row hk (fun g e q => ?_)⟩ (Below.refl _ _).drew
    obtain ⟨cur, ho⟩ := own_obj HD.out.row e
    exact HD.out.obj.ne_obj ho desk_ne q.symm
  have HK2 : Hid (KeptS (DkHas d) w ((w.alloc (.cells #[.int .i64 n] 3)).setCell ⟨d.db, 1, none⟩ (.int .i64 (max d.a.acked n))).drew) := ((KeptS.of_below HB.out).next (KeptS.set (S := DkHas d) _ ⟨d.db, 1, none⟩ (.int .i64 (max d.a.acked n)) (.inl rfl))).next (KeptS.of_below (Below.refl _ _).drew)
  have HN2 : Hid (ObjAt ((w.alloc (.cells #[.int .i64 n] 3)).setCell ⟨d.db, 1, none⟩ (.int .i64 (max d.a.acked n))).drew w.heap.size 3 #[.int .i64 n]) :=
    (HN.out.keptS (KeptS.set (S := fun k => k = d.db) _ ⟨d.db, 1, none⟩ (.int .i64 (max d.a.acked n)) rfl) (fun e => by have := HH.out.obj.lt; omega)).below (Below.refl _ _).drew
  have hne : d.v.ownBlock ≠ some w.heap.size := fun e => by have := HH.out.lt _ (.inr (.inr e)); omega
  clear c1 f1 n0 HD HB HN
  generalize ((w.alloc (.cells #[.int .i64 n] 3)).setCell ⟨d.db, 1, none⟩ (.int .i64 (max d.a.acked n))).drew = W2 at *
  generalize w.heap.size = nb at *
  obtain ⟨va, vc, hv, -, -, -⟩ := owns_row HD2.out.row
  have hv' : d.v = .slice va d.a.ev.length vc := hv
  clear hv
  have c0 : W2.cell? ⟨d.db, 0, none⟩ = some (.slice va d.a.ev.length vc) := by rw [← hv']; exact HD2.out.obj.cell 0 d.v rfl
  have f0 := HD2.out.obj.frozen 0
  have n0 := HN2.out.cell 0 (.int .i64 n) rfl
  have hdel := ack_delete n nb d.v d.a.ev W2 HD2.out.row hl n0 hne
  rw [hv'] at hdel
  have HDEL := hid hdel
  have HV := hid hv'
  clear hdel hne n0 hv'
  go_wp2_with fail
  refine HDEL.out.mono ?_
  rintro e3 W3 ⟨v3, rfl, ho3, hk3, hg3⟩
  have hk3' : KeptS (fun k => d.v.ownBlock = some k) W2 W3 := by rw [HV.out]; exact hk3
  have hne3 : ∀ g, d.v.ownBlock = some g → g ≠ d.db := fun g e q => by
    obtain ⟨cur, ho⟩ := own_obj HD2.out.row e
    exact HD2.out.obj.ne_obj ho desk_ne q.symm
  have hd3 : ObjAt W3 d.db 67 _ := HD2.out.obj.keptS hk3' (fun e => hne3 _ e rfl)
  have hm3 : MapAt W3 d.mb skey (d.a.marks.map mEnt) := HD2.out.marks.keptS hk3' (fun e => by
    obtain ⟨cur, ho⟩ := own_obj HD2.out.row e
    exact ho.ne_map HD2.out.marks rfl)
  have hg3' : v3.ownBlock = d.v.ownBlock := by rw [hg3, HV.out]
  obtain ⟨va3, vc3, hv3, -, -, -⟩ := owns_row ho3
  rw [hv3] at ho3 hg3'
  have c3 := hd3.cell 0 d.v rfl
  rw [HV.out] at c3
  have f3 := hd3.frozen 0
  have HEND : Hid (∃ v', DkAt (W3.setCell ⟨d.db, 0, none⟩ (.slice va3 (d.a.ev.filter fun x => !upTo n x).length vc3)) { d with v := v', a := ackA d.a n } ∧ KeptS (DkHas d) w (W3.setCell ⟨d.db, 0, none⟩ (.slice va3 (d.a.ev.filter fun x => !upTo n x).length vc3)) ∧ v'.ownBlock = d.v.ownBlock) := by
    have hks := KeptS.set (S := fun k => k = d.db) W3 ⟨d.db, 0, none⟩ (.slice va3 (d.a.ev.filter fun x => !upTo n x).length vc3) rfl
    refine ⟨.slice va3 (d.a.ev.filter fun x => !upTo n x).length vc3, ⟨hd3.set 0 _, hm3.keptS hks (fun e => HD2.out.obj.ne_map HD2.out.marks e.symm), own_keptS ho3 hks (fun g e q => hne3 g (by rw [← hg3']; exact e) q)⟩, ?_, hg3'⟩
    exact (HK2.out.next (hk3'.imp (fun k e => .inr (.inr e)))).next (hks.imp (fun k e => .inl e))
  subst hv3
  clear ho3 hk3 hk3' hg3 hg3' hm3 hne3 c0 f0 HD2 HK2 HN2 HDEL HV
  go_wp2_with fail
  go_end0
  exact ⟨rfl, HEND.out⟩
end Go.Proofs.YtjnbflhpboheiaaDoor
