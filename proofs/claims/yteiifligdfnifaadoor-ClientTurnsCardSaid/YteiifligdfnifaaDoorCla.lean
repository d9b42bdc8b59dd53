/-
  A client's Tick, and Hear of Busy.
-/
import Derived.Test.YteiifligdfnifaaDoorCl9
namespace Go.Proofs.YteiifligdfnifaaDoor
open Go.RowKit
set_option maxRecDepth 20000
set_option linter.unusedVariables false

/-- Too early. -/
theorem cl_tick_no (cb : Nat) (c : Cl) (S : List Int) (bs : List UInt8) (now : Int) (w : World) (h : ClAt w cb c S bs) (hw : c.waits = true) (ht0 : 0 ≤ now) (ht1 : now ≤ 1099511627776) (hb : c.busy = false) (hl : c.last ≤ now) (hp : now - c.last < c.pat) (hl0 : 0 ≤ c.last) :
    Calls Tryd.prog 12 #[.pointer (some ⟨cb, 0, none⟩), .int .i64 now] w
      (fun e w' => e = .returned (.tuple #[.agg #[.int .i64 0, .int .i64 0, .slice none 0 0], .bool false]) ∧ Below w.heap.size w w') := by
  have HZ := hid (ObjAt.new w 39 #[.int .i64 0, .int .i64 0, .slice none 0 0])
  have HBZ := hid (below_new (w := w) (.cells #[.int .i64 0, .int .i64 0, .slice none 0 0] 39))
  have H0 := hid (h.below HBZ.out)
  clear h
  go_enter Tryd.func12, Tryd.ntmps12
  go_upto_region 1 with fail
  generalize hzb : w.heap.size = zb at HZ ⊢
  have HZB : Hid (w.heap.size = zb) := hid hzb
  generalize w.alloc (.cells #[.int .i64 0, .int .i64 0, .slice none 0 0] 39) = W0 at *
  clear hzb
  have e4 := H0.out.obj.cell 4 (.bool true) (by rw [← hw]; rfl)
  have e21 := H0.out.obj.cell 21 (.int .i64 c.last) rfl
  have e22 := H0.out.obj.cell 22 (.bool false) (by rw [← hb]; rfl)
  have e27 := H0.out.obj.cell 27 (.int .i64 c.pat) rfl
  have hd1 : decide (now < c.last) = false := decide_eq_false (by omega)
  have hd2 : decide (now - c.last < c.pat) = true := decide_eq_true hp
  have hdt : decide (0 ≤ now ∧ now ≤ 1099511627776) = true := decide_eq_true ⟨ht0, ht1⟩
  have HT : Hid (∀ k, Calls Tryd.prog 32 #[.int .i64 now] (W0.drewN k) fun e w' => e = .returned (.bool true) ∧ w' = W0.drewN k) := hid (fun k => (hdt ▸ cl_time now (W0.drewN k)).mono (fun e w' h => ⟨h.1, h.2.symm⟩))
  clear hdt
  go_quiet (first | (go_at_call 32; refine Calls.quiet_of_same (HT.out _)))
  clear e4 e21 e22 e27 hd1 hd2 HT
  have HB1 : Hid (Below w.heap.size w (W0.drewN nq)) := hid (HBZ.out.trans ((below_drewN' nq).mono HBZ.out.size))
  have HZ1 := hid (HZ.out.below (below_drewN' nq))
  generalize W0.drewN nq = W1 at *
  have z0 := HZ1.out.cell 0 (.int .i64 0) rfl
  have z1 := HZ1.out.cell 1 (.int .i64 0) rfl
  have z2 := HZ1.out.cell 2 (.slice none 0 0) rfl
  have y0 := HZ1.out.frozen 0
  have y1 := HZ1.out.frozen 1
  have y2 := HZ1.out.frozen 2
  have HR : Hid (ObjAt (((W1.setCell ⟨zb, 0, none⟩ (.int .i64 0)).setCell ⟨zb, 1, none⟩ (.int .i64 0)).setCell ⟨zb, 2, none⟩ (.slice none 0 0)) zb 39 #[.int .i64 0, .int .i64 0, .slice none 0 0]) := hid (((HZ1.out.set 0 (.int .i64 0)).set 1 (.int .i64 0)).set 2 (.slice none 0 0))
  have HKR : Hid (KeptS (fun j => j = zb) W1 (((W1.setCell ⟨zb, 0, none⟩ (.int .i64 0)).setCell ⟨zb, 1, none⟩ (.int .i64 0)).setCell ⟨zb, 2, none⟩ (.slice none 0 0))) := hid (((KeptS.set (S := fun j => j = zb) W1 ⟨zb, 0, none⟩ (.int .i64 0) rfl).next (KeptS.set (S := fun j => j = zb) _ ⟨zb, 1, none⟩ (.int .i64 0) rfl)).next (KeptS.set (S := fun j => j = zb) _ ⟨zb, 2, none⟩ (.slice none 0 0) rfl))
  go_wp2_with fail
  generalize ((W1.setCell ⟨zb, 0, none⟩ (.int .i64 0)).setCell ⟨zb, 1, none⟩ (.int .i64 0)).setCell ⟨zb, 2, none⟩ (.slice none 0 0) = wr at *
  refine bodyPost_ret_by (results_cell2 rfl _ _ zb _ _ _ rfl HR.out Tryd.underlying39 (by kernel_rfl)) rfl ?_
  exact ⟨rfl, HB1.out.trans (HKR.out.below (fun j hj => by rw [hj, HZB.out]; exact Nat.le_refl _) HB1.out.size)⟩

set_option maxHeartbeats 4000000 in
/-- The next server's turn. -/
theorem cl_tick (cb : Nat) (c : Cl) (S : List Int) (bs : List UInt8) (now : Int) (w : World) (i j : Nat) (h : ClAt w cb c S bs) (hw : c.waits = true) (ht0 : 0 ≤ now) (ht1 : now ≤ 1099511627776) (hl : c.last ≤ now) (hp : c.busy = false → c.pat ≤ now - c.last) (hl0 : 0 ≤ c.last) (hi : i < S.length) (hpos : c.pos = i) (hj : (i + 1) % S.length = j) (hm : bs.length ≤ 1000) (hS : S.length ≤ 8) :
    Calls Tryd.prog 12 #[.pointer (some ⟨cb, 0, none⟩), .int .i64 now] w (SendP w cb { c with pos := j, last := now, busy := false } S bs (S.getD j 0)) := by
  have HZ := hid (ObjAt.new w 39 #[.int .i64 0, .int .i64 0, .slice none 0 0])
  have HBZ := hid (below_new (w := w) (.cells #[.int .i64 0, .int .i64 0, .slice none 0 0] 39))
  have H0 := hid (h.below HBZ.out)
  have HCZ : Hid (cb < w.heap.size) := hid h.obj.lt
  have HJ := hid hj
  have HM := hid hm
  have HSL := hid (And.intro hi hS)
  have HPOS := hid hpos
  clear h hj hm hi hS hpos
  go_enter Tryd.func12, Tryd.ntmps12
  go_upto_region 1 with fail
  generalize hzb : w.heap.size = zb at HZ HCZ ⊢
  have HZB : Hid (w.heap.size = zb) := hid hzb
  generalize w.alloc (.cells #[.int .i64 0, .int .i64 0, .slice none 0 0] 39) = W0 at *
  clear hzb
  have e4 := H0.out.obj.cell 4 (.bool true) (by rw [← hw]; rfl)
  have e21 := H0.out.obj.cell 21 (.int .i64 c.last) rfl
  have hd1 : decide (now < c.last) = false := decide_eq_false (by omega)
  have hdt : decide (0 ≤ now ∧ now ≤ 1099511627776) = true := decide_eq_true ⟨ht0, ht1⟩
  have HT : Hid (∀ k, Calls Tryd.prog 32 #[.int .i64 now] (W0.drewN k) fun e w' => e = .returned (.bool true) ∧ w' = W0.drewN k) := hid (fun k => (hdt ▸ cl_time now (W0.drewN k)).mono (fun e w' h => ⟨h.1, h.2.symm⟩))
  clear hdt
  go_cut [48] from 6 to 48 (fun s48 wx => s48 = .bool false ∧ Hid (Below W0.heap.size W0 wx))
  case first =>
    cases hb : c.busy with
    | true =>
      have e22 := H0.out.obj.cell 22 (.bool true) (by rw [← hb]; rfl)
      clear hp hb
      go_quiet (first | (go_at_call 32; refine Calls.quiet_of_same (HT.out _)))
      have HQ : Hid (Below W0.heap.size W0 (W0.drewN nq)) := hid (below_drewN' nq)
      go_wp2_with fail
      go_meet
      exact ⟨rfl, HQ⟩
    | false =>
      have e22 := H0.out.obj.cell 22 (.bool false) (by rw [← hb]; rfl)
      have e27 := H0.out.obj.cell 27 (.int .i64 c.pat) rfl
      have hd2 : decide (now - c.last < c.pat) = false := decide_eq_false (by have := hp hb; omega)
      clear hp hb
      go_quiet (first | (go_at_call 32; refine Calls.quiet_of_same (HT.out _)))
      have HQ : Hid (Below W0.heap.size W0 (W0.drewN nq)) := hid (below_drewN' nq)
      go_wp2_with fail
      go_meet
      exact ⟨rfl, HQ⟩
  case rest =>
    obtain ⟨rfl, HB0⟩ := hcut
    have H1 := hid (H0.out.below HB0.out)
    have HZ1 := hid (HZ.out.below HB0.out)
    have HB1 : Hid (Below w.heap.size w wc) := hid (HBZ.out.trans (HB0.out.mono HBZ.out.size))
    clear e4 e21 hd1 HT H0 HZ HB0 HBZ hp
    have e30 := H1.out.obj.cell 30 (.int .i64 (i : Int)) (by rw [← HPOS.out]; rfl)
    have g30 := H1.out.obj.frozen 30
    obtain ⟨sa, sc, hsv, hrow, -, -⟩ := owns_row H1.out.sv
    have e26 := H1.out.obj.cell 26 (.slice sa S.length sc) (by rw [← hsv]; rfl)
    have hl0 := HSL.out.1
    have hl8 := HSL.out.2
    have hne : (S.length : Int) ≠ 0 := by omega
    have hmod : Int.tmod ((i : Int) + 1) (S.length : Int) = (j : Int) := by
      rw [← HJ.out]; rw [show ((i : Int) + 1) = ((i + 1 : Nat) : Int) from by omega]; exact (Int.ofNat_tmod _ _).symm
    have hz1 := HZ1.out.lt
    go_upto_region 3 with fail
    go_region
    have H2 : Hid (ClAt (wc.setCell ⟨cb, 30, none⟩ (.int .i64 (j : Int))) cb { c with pos := j } S bs) := hid (H1.out.set 30 (.int .i64 (j : Int)) rfl rfl rfl)
    have hk2 := KeptS.set (S := fun k => k = cb) wc ⟨cb, 30, none⟩ (.int .i64 (j : Int)) rfl
    have hnz : ¬ zb = cb := fun e => by have := HCZ.out; omega
    have H3 := hid (H2.out.below (below_drewN' 1))
    have HK3 : Hid (KeptS (fun k => k = cb) wc (wc.setCell ⟨cb, 30, none⟩ (.int .i64 (j : Int))).drew) := hid (hk2.next (KeptS.of_below (below_drewN' 1)))
    change Hid (ClAt (wc.setCell ⟨cb, 30, none⟩ (.int .i64 (j : Int))).drew cb { c with pos := j } S bs) at H3
    have HZ3 := hid (HZ1.out.keptS HK3.out hnz)
    generalize (wc.setCell ⟨cb, 30, none⟩ (.int .i64 (j : Int))).drew = w3 at *
    have hjl : j < S.length := by rw [← HJ.out]; exact Nat.mod_lt _ (by omega)
    have HMM := HM.out
    clear e30 g30 e26 hne hmod hz1 hk2 H2 H1 HZ1
    go_wp2_with fail
    refine (cl_send cb { c with pos := j } S bs now j hjl rfl w3 H3.out HMM hl8).mono ?_
    rintro e4 w4 ⟨v, rfl, hov, hcl, hk⟩
    have HOV := hid hov
    have HCL := hid hcl
    have HK := hid hk
    obtain ⟨va, vc, rfl, -, -⟩ := owns_row hov
    clear hov hcl hk
    have HZ4 := hid (HZ3.out.keptS HK.out hnz)
    generalize hx9 : S.getD j 0 = x at *
    have HX9 := hid hx9
    clear hx9
    have z0 := HZ4.out.cell 0 (.int .i64 0) rfl
    have z1 := HZ4.out.cell 1 (.int .i64 0) rfl
    have z2 := HZ4.out.cell 2 (.slice none 0 0) rfl
    have y0 := HZ4.out.frozen 0
    have y1 := HZ4.out.frozen 1
    have y2 := HZ4.out.frozen 2
    have HR : Hid (ObjAt (((w4.setCell ⟨zb, 0, none⟩ (.int .i64 x)).setCell ⟨zb, 1, none⟩ (.int .i64 c.seq)).setCell ⟨zb, 2, none⟩ (.slice va bs.length vc)) zb 39 #[.int .i64 x, .int .i64 c.seq, .slice va bs.length vc]) := hid (((HZ4.out.set 0 (.int .i64 x)).set 1 (.int .i64 c.seq)).set 2 (.slice va bs.length vc))
    have HKR : Hid (KeptS (fun j => j = zb) w4 (((w4.setCell ⟨zb, 0, none⟩ (.int .i64 x)).setCell ⟨zb, 1, none⟩ (.int .i64 c.seq)).setCell ⟨zb, 2, none⟩ (.slice va bs.length vc))) := hid (((KeptS.set (S := fun j => j = zb) w4 ⟨zb, 0, none⟩ (.int .i64 x) rfl).next (KeptS.set (S := fun j => j = zb) _ ⟨zb, 1, none⟩ (.int .i64 c.seq) rfl)).next (KeptS.set (S := fun j => j = zb) _ ⟨zb, 2, none⟩ (.slice va bs.length vc) rfl))
    go_wp2_with fail
    generalize ((w4.setCell ⟨zb, 0, none⟩ (.int .i64 x)).setCell ⟨zb, 1, none⟩ (.int .i64 c.seq)).setCell ⟨zb, 2, none⟩ (.slice va bs.length vc) = wr at *
    clear z0 z1 z2 y0 y1 y2
    refine bodyPost_ret_by (results_cell2 rfl _ _ zb _ _ _ rfl HR.out Tryd.underlying39 (by kernel_rfl)) rfl ?_
    have hW0 : w.heap.size ≤ wc.heap.size := HB1.out.size
    have hw1 : wc.heap.size ≤ w3.heap.size := HK3.out.size
    have hT : ∀ {a b : World}, KeptS (fun j => j = cb) a b → KeptS (fun j => j = zb ∨ j = cb) a b := fun h => h.imp (fun k e => .inr e)
    have hkr : KeptS (fun j => j = cb) w wr := keptS_skip (zb := zb) ((((KeptS.of_below (S := fun j => j = zb ∨ j = cb) HB1.out).next (hT HK3.out)).next (hT HK.out)).next (HKR.out.imp (fun k e => .inl e))) (Nat.le_of_eq HZB.out)
    have hcz : ¬ cb = zb := fun e => hnz e.symm
    refine ⟨.slice va bs.length vc, rfl, own_keptS (owns_base HOV.out (by omega)) HKR.out (fun g hg e => ?_), HCL.out.keptS HKR.out hcz (fun g hg e => ?_) (fun g hg e => ?_), hkr⟩
    · have h1 := (own_lt HOV.out g hg).1
      have h2 := HZ3.out.lt
      omega
    · obtain ⟨cur, ho⟩ := own_objG (HCL.out.sv) hg
      exact ho.ne_obj HZ4.out (by decide) e
    · obtain ⟨cur, ho⟩ := own_objG (HCL.out.b) hg
      exact ho.ne_obj HZ4.out (by decide) e

def R0 : Array Value := #[.int .i64 0, .string ⟨#[]⟩, .int .i64 0, .int .i64 0, .int .i64 0, .int .i64 0, .int .i64 0, .int .i64 0, .slice none 0 0, .string ⟨#[]⟩, .bool false, .int .i64 0, .slice none 0 0, .int .i64 0, .int .i64 0, .slice none 0 0, .int .i64 0, .slice none 0 0, .int .i64 0, .int .i64 0, .int .i64 0, .int .i64 0, .slice none 0 0, .slice none 0 0, .int .i64 0, .slice none 0 0]
set_option maxHeartbeats 2000000 in
/-- It is told Busy. -/
theorem cl_busy (cb : Nat) (c : Cl) (S : List Int) (bs : List UInt8) (v : Value) (w : World) (h : ClAt w cb c S bs) (hw : c.waits = true) :
    Calls Tryd.prog 13 #[.pointer (some ⟨cb, 0, none⟩), .int .i64 c.seq, .bool true, v] w
      (fun e w' => e = .returned (.tuple #[.agg R0, .bool false]) ∧ ClAt w' cb { c with busy := true } S bs ∧ KeptS (fun j => j = cb) w w') := by
  have HCZ : Hid (cb < w.heap.size) := hid h.obj.lt
  have HH := hid h
  clear h
  go_enter Tryd.func13, Tryd.ntmps13
  go_upto_region 1 with fail
  have HZ : Hid (ObjAt (w.alloc (.cells #[.int .i64 0, .string ⟨#[]⟩, .int .i64 0, .int .i64 0, .int .i64 0, .int .i64 0, .int .i64 0, .int .i64 0, .slice none 0 0, .string ⟨#[]⟩, .bool false, .int .i64 0, .slice none 0 0, .int .i64 0, .int .i64 0, .slice none 0 0, .int .i64 0, .slice none 0 0, .int .i64 0, .int .i64 0, .int .i64 0, .int .i64 0, .slice none 0 0, .slice none 0 0, .int .i64 0, .slice none 0 0] 53)) w.heap.size 53 #[.int .i64 0, .string ⟨#[]⟩, .int .i64 0, .int .i64 0, .int .i64 0, .int .i64 0, .int .i64 0, .int .i64 0, .slice none 0 0, .string ⟨#[]⟩, .bool false, .int .i64 0, .slice none 0 0, .int .i64 0, .int .i64 0, .slice none 0 0, .int .i64 0, .slice none 0 0, .int .i64 0, .int .i64 0, .int .i64 0, .int .i64 0, .slice none 0 0, .slice none 0 0, .int .i64 0, .slice none 0 0]) := hid (ObjAt.new w _ _)
  have HBZ : Hid (Below w.heap.size w (w.alloc (.cells #[.int .i64 0, .string ⟨#[]⟩, .int .i64 0, .int .i64 0, .int .i64 0, .int .i64 0, .int .i64 0, .int .i64 0, .slice none 0 0, .string ⟨#[]⟩, .bool false, .int .i64 0, .slice none 0 0, .int .i64 0, .int .i64 0, .slice none 0 0, .int .i64 0, .slice none 0 0, .int .i64 0, .int .i64 0, .int .i64 0, .int .i64 0, .slice none 0 0, .slice none 0 0, .int .i64 0, .slice none 0 0] 53))) := hid (below_new _)
  have H0 := hid (HH.out.below HBZ.out)
  clear HH
  generalize hzb : w.heap.size = zb at HZ HCZ ⊢
  have HZB : Hid (w.heap.size = zb) := hid hzb
  generalize w.alloc (.cells #[.int .i64 0, .string ⟨#[]⟩, .int .i64 0, .int .i64 0, .int .i64 0, .int .i64 0, .int .i64 0, .int .i64 0, .slice none 0 0, .string ⟨#[]⟩, .bool false, .int .i64 0, .slice none 0 0, .int .i64 0, .int .i64 0, .slice none 0 0, .int .i64 0, .slice none 0 0, .int .i64 0, .int .i64 0, .int .i64 0, .int .i64 0, .slice none 0 0, .slice none 0 0, .int .i64 0, .slice none 0 0] 53) = W0 at *
  clear hzb
  have hnz : ¬ zb = cb := fun e => by have := HCZ.out; omega
  have e4 := H0.out.obj.cell 4 (.bool true) (by rw [← hw]; rfl)
  have e5 := H0.out.obj.cell 5 (.int .i64 c.seq) rfl
  have e22 := H0.out.obj.cell 22 (.bool c.busy) rfl
  have g22 := H0.out.obj.frozen 22
  have H1 : Hid (ClAt (W0.setCell ⟨cb, 22, none⟩ (.bool true)) cb { c with busy := true } S bs) := hid (H0.out.set 22 (.bool true) rfl rfl rfl)
  have HK1 : Hid (KeptS (fun j => j = cb) W0 (W0.setCell ⟨cb, 22, none⟩ (.bool true))) := hid (KeptS.set (S := fun j => j = cb) W0 ⟨cb, 22, none⟩ (.bool true) rfl)
  have HZ1 := hid (HZ.out.keptS HK1.out hnz)
  go_upto_region 5 with fail
  generalize W0.setCell ⟨cb, 22, none⟩ (.bool true) = W1 at *
  clear e4 e5 e22 g22
  go_wp2_with (first | (refine wpList_store_row rfl 53 _ _ rfl zb #[.int .i64 0, .string ⟨#[]⟩, .int .i64 0, .int .i64 0, .int .i64 0, .int .i64 0, .int .i64 0, .int .i64 0, .slice none 0 0, .string ⟨#[]⟩, .bool false, .int .i64 0, .slice none 0 0, .int .i64 0, .int .i64 0, .slice none 0 0, .int .i64 0, .slice none 0 0, .int .i64 0, .int .i64 0, .int .i64 0, .int .i64 0, .slice none 0 0, .slice none 0 0, .int .i64 0, .slice none 0 0] rfl rfl _ _ HZ1.out (by kernel_rfl) rfl (by kernel_rfl) ?_))
  have HR : Hid (ObjAt (W1.setRow zb #[.int .i64 0, .string ⟨#[]⟩, .int .i64 0, .int .i64 0, .int .i64 0, .int .i64 0, .int .i64 0, .int .i64 0, .slice none 0 0, .string ⟨#[]⟩, .bool false, .int .i64 0, .slice none 0 0, .int .i64 0, .int .i64 0, .slice none 0 0, .int .i64 0, .slice none 0 0, .int .i64 0, .int .i64 0, .int .i64 0, .int .i64 0, .slice none 0 0, .slice none 0 0, .int .i64 0, .slice none 0 0]) zb 53 #[.int .i64 0, .string ⟨#[]⟩, .int .i64 0, .int .i64 0, .int .i64 0, .int .i64 0, .int .i64 0, .int .i64 0, .slice none 0 0, .string ⟨#[]⟩, .bool false, .int .i64 0, .slice none 0 0, .int .i64 0, .int .i64 0, .slice none 0 0, .int .i64 0, .slice none 0 0, .int .i64 0, .int .i64 0, .int .i64 0, .int .i64 0, .slice none 0 0, .slice none 0 0, .int .i64 0, .slice none 0 0]) := hid (setRow_heap _ _ _ _ _ _ HZ1.out)
  have HKR : Hid (KeptS (fun j => j = zb) W1 (W1.setRow zb #[.int .i64 0, .string ⟨#[]⟩, .int .i64 0, .int .i64 0, .int .i64 0, .int .i64 0, .int .i64 0, .int .i64 0, .slice none 0 0, .string ⟨#[]⟩, .bool false, .int .i64 0, .slice none 0 0, .int .i64 0, .int .i64 0, .slice none 0 0, .int .i64 0, .slice none 0 0, .int .i64 0, .int .i64 0, .int .i64 0, .int .i64 0, .slice none 0 0, .slice none 0 0, .int .i64 0, .slice none 0 0])) := hid (KeptS.setRow _ _ _)
  generalize W1.setRow zb #[.int .i64 0, .string ⟨#[]⟩, .int .i64 0, .int .i64 0, .int .i64 0, .int .i64 0, .int .i64 0, .int .i64 0, .slice none 0 0, .string ⟨#[]⟩, .bool false, .int .i64 0, .slice none 0 0, .int .i64 0, .int .i64 0, .slice none 0 0, .int .i64 0, .slice none 0 0, .int .i64 0, .int .i64 0, .int .i64 0, .int .i64 0, .slice none 0 0, .slice none 0 0, .int .i64 0, .slice none 0 0] = wr at *
  refine bodyPost_ret_by (results_cell2 rfl _ _ zb _ _ _ rfl HR.out Tryd.underlying53 (by kernel_rfl)) rfl ?_
  have hT : ∀ {a b : World}, KeptS (fun j => j = cb) a b → KeptS (fun j => j = zb ∨ j = cb) a b := fun h => h.imp (fun k e => .inr e)
  have hkr : KeptS (fun j => j = cb) w wr := keptS_skip (zb := zb) (((KeptS.of_below (S := fun j => j = zb ∨ j = cb) HBZ.out).next (hT HK1.out)).next (HKR.out.imp (fun k e => .inl e))) (Nat.le_of_eq HZB.out)
  refine ⟨rfl, H1.out.keptS HKR.out (fun e => hnz e.symm) (fun g hg e => ?_) (fun g hg e => ?_), hkr⟩
  · obtain ⟨cur, ho⟩ := own_objG (H1.out.sv) hg
    exact ho.ne_obj HZ1.out (by decide) e
  · obtain ⟨cur, ho⟩ := own_objG (H1.out.b) hg
    exact ho.ne_obj HZ1.out (by decide) e
end Go.Proofs.YteiifligdfnifaaDoor
