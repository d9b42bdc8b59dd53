/-
  A client's Open and Waits.
-/
import Derived.Test.YteiifligdfnifaaDoorCl8
namespace Go.Proofs.YteiifligdfnifaaDoor
open Go.RowKit
set_option maxRecDepth 20000
set_option linter.unusedVariables false

theorem cl_waits (cb : Nat) (c : Cl) (S : List Int) (bs : List UInt8) (w : World) (h : ClAt w cb c S bs) : Calls Tryd.prog 15 #[.pointer (some ⟨cb, 0, none⟩)] w fun e w' => e = .returned (.bool c.waits) ∧ w = w' := by
  have e4 := h.obj.cell 4 (.bool c.waits) rfl
  go_enter Tryd.func15, Tryd.ntmps15
  go_wp2_with fail
  go_ret
  exact ⟨rfl, rfl⟩

set_option maxHeartbeats 4000000 in
theorem cl_open (cb : Nat) (c : Cl) (S : List Int) (bs0 : List UInt8) (now : Int) (i : Nat) (n l : Nat) (hi : i < S.length) (hp : c.pos = i) (w : World) (h : ClAt w cb c S bs0) (hw : c.waits = false) (hn0 : c.n = 0) (ht0 : 0 ≤ now) (ht1 : now ≤ 1099511627776) (hh : c.home.length ≤ 32) (hn : c.nonce + 8 * c.opens = (n : Int)) (hn1 : n ≤ 1152921504606846976) (ho0 : 0 ≤ c.opens) (ho1 : c.opens ≤ 1099511627776) (hnn : 0 ≤ c.nonce) (hl : c.lease = (l : Int)) (hl1 : l ≤ 1152921504606846976) (hS : S.length ≤ 8) (hs0 : 0 ≤ c.seq) (hs1 : c.seq ≤ 1099511627776) :
    Calls Tryd.prog 11 #[.pointer (some ⟨cb, 0, none⟩), .int .i64 now] w
      (fun e w' => ∃ bv, SendP w cb { c with opens := c.opens + 1, waits := true, seq := c.seq + 1, call := callO c.home n l, b := bv, first := now, last := now, busy := false } S (openB c.home n l) (S.getD i 0) e w') := by
  have HZ := hid (ObjAt.new w 39 #[.int .i64 0, .int .i64 0, .slice none 0 0])
  have HBZ := hid (below_new (w := w) (.cells #[.int .i64 0, .int .i64 0, .slice none 0 0] 39))
  have H0 := hid (h.below HBZ.out)
  have HS0 : Hid (w.heap.size < (w.alloc (.cells #[.int .i64 0, .int .i64 0, .slice none 0 0] 39)).heap.size) := hid HZ.out.lt
  have HCZ : Hid (cb < w.heap.size) := hid h.obj.lt
  have HP := hid hp
  have HN := hid hn
  have HL := hid hl
  clear h hp hn hl
  go_enter Tryd.func11, Tryd.ntmps11
  go_upto_region 1 with fail
  generalize hzb : w.heap.size = zb at HZ HS0 HCZ ⊢
  have HZB : Hid (w.heap.size = zb) := hid hzb
  generalize w.alloc (.cells #[.int .i64 0, .int .i64 0, .slice none 0 0] 39) = W0 at *
  clear hzb
  have e1 := H0.out.obj.cell 1 (.int .i64 0) (by rw [← hn0]; rfl)
  have e4 := H0.out.obj.cell 4 (.bool false) (by rw [← hw]; rfl)
  have HT := hid (cl_time now W0)
  have hdt : decide (0 ≤ now ∧ now ≤ 1099511627776) = true := decide_eq_true ⟨ht0, ht1⟩
  rw [hdt] at HT
  clear hdt
  go_upto_region 3 with (first | (refine HT.out.mono ?_; rintro e w1 ⟨rfl, rfl⟩))
  clear e1 e4
  have e31 := H0.out.obj.cell 31 (.int .i64 c.opens) rfl
  have g31 := H0.out.obj.frozen 31
  have H1 : Hid (ClAt (W0.setCell ⟨cb, 31, none⟩ (.int .i64 (c.opens + 1))) cb { c with opens := c.opens + 1 } S bs0) := hid (H0.out.set 31 (.int .i64 (c.opens + 1)) rfl rfl rfl)
  have hne : ¬ zb = cb := fun e => by have := HCZ.out; omega
  have hk1 := KeptS.set (S := fun j => j = cb) W0 ⟨cb, 31, none⟩ (.int .i64 (c.opens + 1)) rfl
  have HK1 := hid hk1
  have HZ1 : Hid (ObjAt (W0.setCell ⟨cb, 31, none⟩ (.int .i64 (c.opens + 1))) zb 39 #[.int .i64 0, .int .i64 0, .slice none 0 0]) := hid (HZ.out.keptS hk1 hne)
  have hwr : IntKind.i64.wrap (c.opens + 1) = c.opens + 1 := by rw [IntKind.wrap_i64]; omega
  clear hk1
  go_upto_region 4 with fail
  generalize W0.setCell ⟨cb, 31, none⟩ (.int .i64 (c.opens + 1)) = W1 at *
  clear e31 g31 hwr
  have e31 := H1.out.obj.cell 31 (.int .i64 (c.opens + 1)) rfl
  have e23 := H1.out.obj.cell 23 (.string ⟨c.home.toArray⟩) rfl
  have e24 := H1.out.obj.cell 24 (.int .i64 c.nonce) rfl
  have e25 := H1.out.obj.cell 25 (.int .i64 c.lease) rfl
  have HBG : Hid (Calls Tryd.prog 33 #[.pointer (some ⟨cb, 0, none⟩), .agg #[.int .i64 1, .string ⟨c.home.toArray⟩, .int .i64 0, .int .i64 0, .int .i64 (n : Int), .int .i64 (l : Int), .int .i64 0, .int .i64 0, .slice none 0 0, .string ⟨#[]⟩, .bool false, .int .i64 0, .slice none 0 0], .int .i64 now] W1.drew
      (fun e w' => ∃ bv, SendP W1.drew cb { c with opens := c.opens + 1, waits := true, seq := c.seq + 1, call := callO c.home n l, b := bv, first := now, last := now, busy := false } S (openB c.home n l) (S.getD i 0) e w')) :=
    hid (cl_begin cb { c with opens := c.opens + 1 } S bs0 c.home n l now i hi HP.out W1.drew (H1.out.below (below_drewN' 1)) hh (by omega) (by omega) hS hs0 hs1)
  have hz1 := HZ1.out.lt
  rw [HL.out] at e25
  have hm8 : c.opens + 1 - 1 = c.opens := by omega
  have HWR : Hid (IntKind.i64.wrap (c.nonce + IntKind.i64.wrap (8 * IntKind.i64.wrap c.opens)) = (n : Int)) := by
    have h1 : IntKind.i64.wrap c.opens = c.opens := by rw [IntKind.wrap_i64]; omega
    have h2 : IntKind.i64.wrap (8 * c.opens) = 8 * c.opens := by rw [IntKind.wrap_i64]; omega
    have h3 := HN.out
    refine hid ?_
    rw [h1, h2, h3, IntKind.wrap_i64]; omega
  generalize ho9 : c.opens + 1 = o1 at *
  have HO9 := hid ho9
  clear ho9
  generalize hx9 : S.getD i 0 = x at *
  have HX9 := hid hx9
  clear hx9
  go_region_held3 (fun w' => w'.cell? ⟨cb, 31, none⟩ = some (.int .i64 o1) ∧ w'.cell? ⟨cb, 23, none⟩ = some (.string ⟨c.home.toArray⟩) ∧ w'.cell? ⟨cb, 24, none⟩ = some (.int .i64 c.nonce) ∧ w'.cell? ⟨cb, 25, none⟩ = some (.int .i64 (l : Int)))
    (first | exact ⟨e31', e23', e24', e25'⟩ | exact ⟨e31, e23, e24, e25⟩ | go_keep)
    (first
      | ((go_at_call 33; rw [HWR.out]; refine HBG.out.mono ?_; rintro e2 w2 ⟨bv, v, rfl, hov, hcl, hk⟩; have HOV := hid hov; have HCL := hid hcl; have HK := hid hk; obtain ⟨va, vc, rfl, -, -⟩ := owns_row hov; clear hov hcl hk; have HZ2 := hid ((HZ1.out.below (below_drewN' 1)).keptS HK.out hne); have e31' := HCL.out.obj.cell 31 (.int .i64 o1) rfl; have e23' := HCL.out.obj.cell 23 (.string ⟨c.home.toArray⟩) rfl; have e24' := HCL.out.obj.cell 24 (.int .i64 c.nonce) rfl; have e25' := HCL.out.obj.cell 25 (.int .i64 c.lease) rfl; rw [HL.out] at e25'; have z0 := HZ2.out.cell 0 (.int .i64 0) rfl; have z1 := HZ2.out.cell 1 (.int .i64 0) rfl; have z2 := HZ2.out.cell 2 (.slice none 0 0) rfl; have y0 := HZ2.out.frozen 0; have y1 := HZ2.out.frozen 1; have y2 := HZ2.out.frozen 2)))
  all_goals
    have HR : Hid (ObjAt (((w2.setCell ⟨zb, 0, none⟩ (.int .i64 x)).setCell ⟨zb, 1, none⟩ (.int .i64 (c.seq + 1))).setCell ⟨zb, 2, none⟩ (.slice va (openB c.home n l).length vc)) zb 39 #[.int .i64 x, .int .i64 (c.seq + 1), .slice va (openB c.home n l).length vc]) := hid (((HZ2.out.set 0 (.int .i64 x)).set 1 (.int .i64 (c.seq + 1))).set 2 (.slice va (openB c.home n l).length vc))
    have HKR : Hid (KeptS (fun j => j = zb) w2 (((w2.setCell ⟨zb, 0, none⟩ (.int .i64 x)).setCell ⟨zb, 1, none⟩ (.int .i64 (c.seq + 1))).setCell ⟨zb, 2, none⟩ (.slice va (openB c.home n l).length vc))) := hid (((KeptS.set (S := fun j => j = zb) w2 ⟨zb, 0, none⟩ (.int .i64 x) rfl).next (KeptS.set (S := fun j => j = zb) _ ⟨zb, 1, none⟩ (.int .i64 (c.seq + 1)) rfl)).next (KeptS.set (S := fun j => j = zb) _ ⟨zb, 2, none⟩ (.slice va (openB c.home n l).length vc) rfl))
    generalize ((w2.setCell ⟨zb, 0, none⟩ (.int .i64 x)).setCell ⟨zb, 1, none⟩ (.int .i64 (c.seq + 1))).setCell ⟨zb, 2, none⟩ (.slice va (openB c.home n l).length vc) = wr at *
    clear z0 z1 z2 y0 y1 y2 e31 e23 e24 e25 e31' e23' e24' e25'
    go_wp2_with fail
    refine bodyPost_ret_by (results_cell2 rfl _ _ zb _ _ _ rfl HR.out Tryd.underlying39 (by kernel_rfl)) rfl ?_
    have hW0 : w.heap.size ≤ W0.heap.size := HBZ.out.size
    have hw1 : W0.heap.size ≤ W1.heap.size := HK1.out.size
    have hw1' : W1.drew.heap.size = W1.heap.size := rfl
    have hT : ∀ {a b : World}, KeptS (fun j => j = cb) a b → KeptS (fun j => j = zb ∨ j = cb) a b := fun h => h.imp (fun k e => .inr e)
    have hkr : KeptS (fun j => j = cb) w wr := keptS_skip (zb := zb) ((((((KeptS.of_below (S := fun j => j = zb ∨ j = cb) HBZ.out).next (hT HK1.out)).next (KeptS.of_below (below_drewN' 1)))).next (hT HK.out)).next (HKR.out.imp (fun k e => .inl e))) (Nat.le_of_eq HZB.out)
    have hcz : ¬ cb = zb := fun e => hne e.symm
    rw [HO9.out, HX9.out]
    refine ⟨_, .slice va (openB c.home n l).length vc, rfl, own_keptS (owns_base HOV.out (by omega)) HKR.out (fun g hg e => ?_), HCL.out.keptS HKR.out hcz (fun g hg e => ?_) (fun g hg e => ?_), hkr⟩
    · have h1 := (own_lt HOV.out g hg).1
      omega
    · obtain ⟨cur, ho⟩ := own_objG (HCL.out.sv) hg
      exact ho.ne_obj HZ2.out (by decide) e
    · obtain ⟨cur, ho⟩ := own_objG (HCL.out.b) hg
      exact ho.ne_obj HZ2.out (by decide) e
end Go.Proofs.YteiifligdfnifaaDoor
