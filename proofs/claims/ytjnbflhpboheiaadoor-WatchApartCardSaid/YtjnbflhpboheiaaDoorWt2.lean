/-
  put.
-/
import Derived.Test.YtjnbflhpboheiaaDoorWt1
import Derived.Test.YtjnbflhpboheiaaDoorAppR
import Derived.Deep.Cut
import Derived.Deep.RegionHeld3
import Derived.Deep.RegionWith
namespace Go.Proofs.YtjnbflhpboheiaaDoor
open Go.RowKit
set_option maxRecDepth 20000
set_option linter.unusedVariables false

theorem infoEv : (Tryd.prog.info? 38).map (fun i => (i.zero, i.size, i.bytes)) = some (some (.agg #[.int .i64 0, .int .i64 0, .string ⟨#[]⟩]), 3, 32) := by kernel_rfl

def putA (a : Da) (kind : Int) (p : List UInt8) : Da := { a with ev := a.ev ++ [⟨a.last + 1, kind, p⟩], last := a.last + 1 }
/-- The end of a put. -/
theorem put_end {d : Dk} {kind : Int} {p : List UInt8} {w W X w5 : World} {va : Option Addr} {vc g5 cp5 : Nat} (h : DkAt w d) (hv : d.v = .slice va d.a.ev.length vc) (k1 : KeptS (fun k => k = d.db) w W) (hw : w.heap.size ≤ W.heap.size) (hb : Below W.heap.size W X) (hg : X.grownBy w5 (Value.slice va d.a.ev.length vc).ownBlock)
    (ho : w5.ownsRow 0 38 3 (.slice (some ⟨g5, 0, none⟩) (d.a.ev.length + 1) cp5) (d.a.ev.length + 1) (d.a.ev.flatMap evC ++ [.int .i64 (d.a.last + 1), .int .i64 kind, tkey p]))
    (hat : (Value.slice va d.a.ev.length vc).ownBlock = some g5 ∨ g5 = X.heap.size) (hd : ObjAt w5 d.db 67 #[.slice va d.a.ev.length vc, .int .i64 d.a.acked, .int .i64 (d.a.last + 1), .map (some d.mb)]) :
    ∃ v', DkAt (w5.setCell ⟨d.db, 0, none⟩ (.slice (some ⟨g5, 0, none⟩) (d.a.ev.length + 1) cp5)) { d with v := v', a := putA d.a kind p } ∧ KeptS (DkHas d) w (w5.setCell ⟨d.db, 0, none⟩ (.slice (some ⟨g5, 0, none⟩) (d.a.ev.length + 1) cp5)) ∧ (∀ k, v'.ownBlock = some k → d.v.ownBlock = some k ∨ w.heap.size ≤ k) := by
  rw [← hv] at hg hat
  have k2 : KeptS (fun k => k = d.db ∨ d.v.ownBlock = some k) w w5 := ((k1.imp fun k e => .inl e).next (KeptS.of_below hb)).next ((KeptS.grown hg).imp fun k e => .inr e)
  have k3 := k2.next (KeptS.set (S := fun k => k = d.db ∨ d.v.ownBlock = some k) w5 ⟨d.db, 0, none⟩ (.slice (some ⟨g5, 0, none⟩) (d.a.ev.length + 1) cp5) (.inl rfl))
  have hs := hb.size
  have hne : g5 ≠ d.db := fun e => by
    rcases hat with q | q
    · obtain ⟨cur, hc⟩ := own_obj h.row q
      exact h.obj.ne_obj hc desk_ne e.symm
    · have := h.obj.lt; omega
  refine ⟨.slice (some ⟨g5, 0, none⟩) (d.a.ev.length + 1) cp5, ⟨hd.set 0 _, h.marks.keptS k3 ?_, ?_⟩, k3.imp fun k e => e.elim .inl (fun q => .inr (.inr q)), fun k hk => ?_⟩
  · rintro (e | e)
    · exact h.obj.ne_map h.marks e.symm
    · obtain ⟨cur, hc⟩ := own_obj h.row e
      exact hc.ne_map h.marks rfl
  · have q := own_keptS ho (KeptS.set (S := fun k => k = d.db) w5 ⟨d.db, 0, none⟩ (.slice (some ⟨g5, 0, none⟩) (d.a.ev.length + 1) cp5) rfl) (fun g hgg => by
      simp only [Value.ownBlock, Option.some.injEq] at hgg; subst hgg; exact hne)
    show World.ownsRow _ 0 _ 3 _ (d.a.ev ++ [_]).length ((d.a.ev ++ [_]).flatMap evC)
    rw [List.length_append, List.flatMap_append]
    simpa [evC] using q
  · simp only [Value.ownBlock, Option.some.injEq] at hk
    subst hk
    exact hat.imp id (fun q => by omega)

set_option maxHeartbeats 2000000 in
theorem hub_put (d : Dk) (kind : Int) (p : List UInt8) (w : World) (h : DkAt w d) (h1 : 0 ≤ d.a.last ∧ d.a.last ≤ 4611686018427387904) (h2 : d.a.ev.length ≤ 1073741824) :
    Calls Tryd.prog 34 #[.pointer (some ⟨d.db, 0, none⟩), .int .i64 kind, tkey p] w fun e w' => e = .returned (.tuple #[]) ∧ ∃ v', DkAt w' { d with v := v', a := putA d.a kind p } ∧ KeptS (DkHas d) w w' ∧ (∀ k, v'.ownBlock = some k → d.v.ownBlock = some k ∨ w.heap.size ≤ k) := by
  have HH := hid h
  have c2 := h.obj.cell 2 (.int .i64 d.a.last) rfl
  have f2 := h.obj.frozen 2
  have HO := hid (h.obj.set 2 (.int .i64 (d.a.last + 1)))
  have HW := hid (own_keptS h.row (KeptS.set (S := fun k => k = d.db) w ⟨d.db, 2, none⟩ (.int .i64 (d.a.last + 1)) rfl) (fun g e q => by
    obtain ⟨cur, ho⟩ := own_obj h.row e
    exact h.obj.ne_obj ho desk_ne q.symm))
  have HK1 := hid (KeptS.set (S := fun k => k = d.db) w ⟨d.db, 2, none⟩ (.int .i64 (d.a.last + 1)) rfl)
  have HSZ : Hid (w.heap.size ≤ (w.setCell ⟨d.db, 2, none⟩ (.int .i64 (d.a.last + 1))).heap.size) := HK1.out.size
  clear h
  go_enter Tryd.func34, Tryd.ntmps34
  go_wp2_with fail
  generalize w.setCell ⟨d.db, 2, none⟩ (.int .i64 (d.a.last + 1)) = W at *
  have c0 := HO.out.cell 0 d.v rfl
  have f0 := HO.out.frozen 0
  have c2 := HO.out.cell 2 (.int .i64 (d.a.last + 1)) rfl
  obtain ⟨va, vc, hv, -, -⟩ := owns_row HW.out
  rw [hv] at c0
  have HWV := hid HW.out
  rw [hv] at HWV
  have HONE : Hid (∀ u ∈ [Value.int .i64 (d.a.last + 1), .int .i64 kind, tkey p], u.oneCell' = true) := by
    show ∀ u ∈ _, _
    simp [Value.oneCell']
  have hlen := h2
  have HOR : Hid (∀ g, (Value.slice va d.a.ev.length vc).ownBlock = some g → g ≠ d.db) := fun g e q => by
    obtain ⟨cur, ho⟩ := own_obj HWV.out e
    exact HO.out.ne_obj ho desk_ne q.symm
  have c0a : (W.alloc (.cells #[.int .i64 (d.a.last + 1), .int .i64 kind, tkey p] 38)).cell? ⟨d.db, 0, none⟩ = some (.slice va d.a.ev.length vc) := ((below_new (w := W) _).cell (p := ⟨d.db, 0, none⟩) (lt_of_cell c0)).trans c0
  have c2a : (W.alloc (.cells #[.int .i64 (d.a.last + 1), .int .i64 kind, tkey p] 38)).cell? ⟨d.db, 2, none⟩ = some (.int .i64 (d.a.last + 1)) := ((below_new (w := W) _).cell (p := ⟨d.db, 2, none⟩) (lt_of_cell c2)).trans c2
  have HBB : Hid (Below W.heap.size W (W.alloc (.cells #[.int .i64 (d.a.last + 1), .int .i64 kind, tkey p] 38)).drew) := (below_new _).trans (below_drewN' 1)
  go_region_law (first
    | (refine step_app_row rfl (.tmp 17) (.tmp 25) 35 rfl 0 38 Tryd.underlying35 infoEv rfl (by decide) (.slice va d.a.ev.length vc) d.a.ev.length (d.a.ev.flatMap evC) [.int .i64 (d.a.last + 1), .int .i64 kind, tkey p] ⟨_, 0, none⟩ 1 rfl (by first | exact HWV.out.alloc _ | exact (HWV.out.alloc _).drew | exact (HWV.out.drew).alloc _) rfl rfl (by first | exact RowAt.new _ _ _ _) HONE.out (by unfold maxLen; omega) (by omega) (Nat.zero_le _) ?_; intro g5 cp5 w5 ho5 hg5 hat5; have hd5 : ObjAt w5 d.db _ _ := ObjAt.keptS (ObjAt.below HO.out HBB.out) (KeptS.grown hg5) (fun e => HOR.out _ e rfl); have c5 := hd5.cell 0 (.slice va d.a.ev.length vc) (by rw [← hv]; rfl); have f5 := hd5.frozen 0; have HD5 := hid hd5; have HO5 := hid ho5; have HG5 := hid hg5; have HAT := hid hat5; clear hd5 ho5 hg5 hat5))
  all_goals
    have HQ := hid (put_end (kind := kind) (p := p) HH.out hv HK1.out HSZ.out HBB.out HG5.out HO5.out HAT.out (by rw [← hv]; exact HD5.out))
    clear c5 f5 HD5 HO5 HG5 HAT HBB c0a c2a c0 c2 f0 f2
    go_wp2_with fail
    go_end0
    exact ⟨rfl, HQ.out⟩
end Go.Proofs.YtjnbflhpboheiaaDoor
