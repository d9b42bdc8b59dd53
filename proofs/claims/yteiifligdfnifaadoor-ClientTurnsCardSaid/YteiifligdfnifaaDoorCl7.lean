/-
  A client's send.
-/
import Derived.Test.YteiifligdfnifaaDoorCl1
import Derived.Test.YteiifligdfnifaaDoorCl6
import Derived.Test.YteiifligdfnifaaDoorClone
import Derived.Deep.RegionHeld3
namespace Go.Proofs.YteiifligdfnifaaDoor
open Go.RowKit
set_option maxRecDepth 20000
set_option linter.unusedVariables false

def SendP (w : World) (cb : Nat) (c' : Cl) (S : List Int) (bs : List UInt8) (dst : Int) (e : Ending) (w' : World) : Prop :=
  ∃ v, e = .returned (.tuple #[.agg #[.int .i64 dst, .int .i64 c'.seq, v], .bool true]) ∧ w'.ownsRow w.heap.size 5 1 v bs.length (bs.map byt) ∧ ClAt w' cb c' S bs ∧ KeptS (fun j => j = cb) w w'
theorem keptS_skip {w w' : World} {zb : Nat} {S : Nat → Prop} (h : KeptS (fun j => j = zb ∨ S j) w w') (hz : w.heap.size ≤ zb) : KeptS S w w' :=
  h.mono (fun k hk hs => hs.elim (fun e => by omega) id)

set_option maxHeartbeats 8000000 in
theorem cl_send (cb : Nat) (c : Cl) (S : List Int) (bs : List UInt8) (now : Int) (i : Nat) (hi : i < S.length) (hp : c.pos = i) (w : World) (h : ClAt w cb c S bs) (hm : bs.length ≤ 1000) (hS : S.length ≤ 8) :
    Calls Tryd.prog 34 #[.pointer (some ⟨cb, 0, none⟩), .int .i64 now] w (SendP w cb { c with last := now, busy := false } S bs (S.getD i 0)) := by
  have HM := hid hm
  have HZ := hid (ObjAt.new w 39 #[.int .i64 0, .int .i64 0, .slice none 0 0])
  have HBZ := hid (below_new (w := w) (.cells #[.int .i64 0, .int .i64 0, .slice none 0 0] 39))
  have H0 := hid (h.below HBZ.out)
  have HS0 : Hid (w.heap.size < (w.alloc (.cells #[.int .i64 0, .int .i64 0, .slice none 0 0] 39)).heap.size) := hid HZ.out.lt
  have HCZ : Hid (cb < w.heap.size) := hid h.obj.lt
  clear h
  go_enter Tryd.func34, Tryd.ntmps34
  go_upto_region 1 with fail
  generalize hzb : w.heap.size = zb at HZ HS0 HCZ ⊢
  have HZB : Hid (w.heap.size = zb) := hid hzb
  generalize w.alloc (.cells #[.int .i64 0, .int .i64 0, .slice none 0 0] 39) = W0 at *
  clear hzb
  have hne : zb ≠ cb := fun e => by have := HCZ.out; omega
  have hne' : cb ≠ zb := fun e => hne e.symm
  have e21 := H0.out.obj.cell 21 (.int .i64 c.last) rfl
  have e22 := H0.out.obj.cell 22 (.bool c.busy) rfl
  have g21 := H0.out.obj.frozen 21
  have g22 := H0.out.obj.frozen 22
  have H1 : Hid (ClAt (W0.setCell ⟨cb, 21, none⟩ (.int .i64 now)) cb { c with last := now } S bs) := hid (H0.out.set 21 (.int .i64 now) rfl rfl rfl)
  have H2 : Hid (ClAt ((W0.setCell ⟨cb, 21, none⟩ (.int .i64 now)).setCell ⟨cb, 22, none⟩ (.bool false)) cb { c with last := now, busy := false } S bs) := hid (H1.out.set 22 (.bool false) rfl rfl rfl)
  have HK2 : Hid (KeptS (fun j => j = cb) W0 ((W0.setCell ⟨cb, 21, none⟩ (.int .i64 now)).setCell ⟨cb, 22, none⟩ (.bool false))) := hid ((KeptS.set (S := fun j => j = cb) W0 ⟨cb, 21, none⟩ (.int .i64 now) rfl).next (KeptS.set (S := fun j => j = cb) _ ⟨cb, 22, none⟩ (.bool false) rfl))
  go_upto_region 2 with fail
  generalize (W0.setCell ⟨cb, 21, none⟩ (.int .i64 now)).setCell ⟨cb, 22, none⟩ (.bool false) = W2 at *
  clear e21 e22 g21 g22 H0 H1
  have HZ2 := hid (HZ.out.keptS HK2.out hne)
  obtain ⟨sk, sc, hsv, -, hrow⟩ := own_at H2.out.sv (by omega)
  obtain ⟨ba, bc, hbv, -, -⟩ := owns_row H2.out.b
  have HBV := hid (owns_bytes H2.out.b)
  simp only at hsv hbv
  rw [show ({ c with last := now, busy := false } : Cl).b = c.b from rfl, hbv] at HBV
  obtain ⟨b', o', e', hcl⟩ := hrow i (.int .i64 (S.getD i 0)) (by rw [List.getElem?_map, List.getElem?_eq_getElem hi]; simp [List.getD_eq_getElem?_getD, List.getElem?_eq_getElem hi])
  simp only [Option.some.injEq, Addr.mk.injEq, and_true] at e'
  obtain ⟨rfl, rfl⟩ := e'
  rw [Nat.zero_add] at hcl
  generalize hx : S.getD i 0 = x at hcl ⊢
  have hx' := hid hx
  clear hx hrow
  have e26 : W2.cell? ⟨cb, 26, none⟩ = some (.slice (some ⟨sk, 0, none⟩) S.length sc) := by rw [← hsv]; exact H2.out.obj.cell 26 c.sv rfl
  have e30 : W2.cell? ⟨cb, 30, none⟩ = some (.int .i64 (i : Int)) := by rw [← hp]; exact H2.out.obj.cell 30 (.int .i64 c.pos) rfl
  have e5 := H2.out.obj.cell 5 (.int .i64 c.seq) rfl
  have e19 : W2.cell? ⟨cb, 19, none⟩ = some (.slice ba bs.length bc) := by rw [← hbv]; exact H2.out.obj.cell 19 c.b rfl
  have hskz : sk ≠ zb := fun e => by
    obtain ⟨cur, ho⟩ := own_objG H2.out.sv (g := sk) (by rw [show ({ c with last := now, busy := false } : Cl).sv = c.sv from rfl, hsv]; rfl)
    exact ho.ne_obj HZ2.out (by decide) e
  have hskz' : zb ≠ sk := fun e => hskz e.symm
  have hi0 : (0 : Int) ≤ (i : Int) := Int.natCast_nonneg i
  have hi1 : (i : Int) < (S.length : Int) := Int.ofNat_lt.2 hi
  go_region_held3 (fun w' => w'.cell? ⟨cb, 26, none⟩ = some (.slice (some ⟨sk, 0, none⟩) S.length sc) ∧ w'.cell? ⟨cb, 30, none⟩ = some (.int .i64 (i : Int)) ∧ w'.cell? ⟨cb, 5, none⟩ = some (.int .i64 c.seq) ∧ w'.cell? ⟨cb, 19, none⟩ = some (.slice ba bs.length bc) ∧ w'.cell? ⟨sk, i, none⟩ = some (.int .i64 x))
    (first | exact ⟨e26', e30', e5', e19', hcl'⟩ | exact ⟨e26, e30, e5, e19, hcl⟩ | go_keep)
    (first
      | ((go_at_call 55; refine (bytes_clone _ bs _ (HBV.out.below (below_drewN' 1)) (by have := HM.out; omega)).mono ?_; rintro ec wc ⟨v, rfl, hv, hbc⟩; have HBC : Hid (Below W2.heap.size W2 wc) := hid ((below_drewN' 1).trans (hbc.mono (below_drewN' (B := W2.heap.size) (w := W2) 1).size)); have HV : Hid (wc.ownsRow W2.heap.size 5 1 v bs.length (bs.map byt)) := hid (owns_base hv (below_drewN' (B := W2.heap.size) (w := W2) 1).size); have e26' := cell_later HBC.out e26; have e30' := cell_later HBC.out e30; have e5' := cell_later HBC.out e5; have e19' := cell_later HBC.out e19; have hcl' := cell_later HBC.out hcl; obtain ⟨va, vc, rfl, -, -⟩ := owns_row HV.out; have HZ3 := hid (HZ2.out.below HBC.out); have z0 := HZ3.out.cell 0 (.int .i64 0) rfl; have z1 := HZ3.out.cell 1 (.int .i64 0) rfl; have z2 := HZ3.out.cell 2 (.slice none 0 0) rfl; have y0 := HZ3.out.frozen 0; have y1 := HZ3.out.frozen 1; have y2 := HZ3.out.frozen 2; clear hv hbc)))
  all_goals
    have HR : Hid (ObjAt (((wc.setCell ⟨zb, 0, none⟩ (.int .i64 x)).setCell ⟨zb, 1, none⟩ (.int .i64 c.seq)).setCell ⟨zb, 2, none⟩ (.slice va bs.length vc)) zb 39 #[.int .i64 x, .int .i64 c.seq, .slice va bs.length vc]) := hid (((HZ3.out.set 0 (.int .i64 x)).set 1 (.int .i64 c.seq)).set 2 (.slice va bs.length vc))
    have HKR : Hid (KeptS (fun j => j = zb) wc (((wc.setCell ⟨zb, 0, none⟩ (.int .i64 x)).setCell ⟨zb, 1, none⟩ (.int .i64 c.seq)).setCell ⟨zb, 2, none⟩ (.slice va bs.length vc))) := hid (((KeptS.set (S := fun j => j = zb) wc ⟨zb, 0, none⟩ (.int .i64 x) rfl).next (KeptS.set (S := fun j => j = zb) _ ⟨zb, 1, none⟩ (.int .i64 c.seq) rfl)).next (KeptS.set (S := fun j => j = zb) _ ⟨zb, 2, none⟩ (.slice va bs.length vc) rfl))
    generalize ((wc.setCell ⟨zb, 0, none⟩ (.int .i64 x)).setCell ⟨zb, 1, none⟩ (.int .i64 c.seq)).setCell ⟨zb, 2, none⟩ (.slice va bs.length vc) = wr at *
    clear z0 z1 z2 y0 y1 y2 e26 e30 e5 e19 e26' e30' e5' e19' hcl hcl'
    go_wp2_with fail
    refine bodyPost_ret_by (results_cell2 rfl _ _ zb _ _ _ rfl HR.out Tryd.underlying39 (by kernel_rfl)) rfl ?_
    have hw2 : w.heap.size ≤ W2.heap.size := Nat.le_trans HBZ.out.size HK2.out.size
    have hkr : KeptS (fun j => j = cb) w wr := keptS_skip (zb := zb) ((((KeptS.of_below (S := fun j => j = zb ∨ j = cb) HBZ.out).trans (HK2.out.mono (fun k _ h => .inr h)) (fun _ _ h => h)).trans (KeptS.of_below (S := fun j => j = zb ∨ j = cb) HBC.out) (fun _ _ h => h)).trans (HKR.out.mono (fun k _ h => .inl h)) (fun _ _ h => h)) (Nat.le_of_eq HZB.out)
    refine ⟨.slice va bs.length vc, by rw [hx'.out]; rfl, own_keptS (owns_base HV.out hw2) HKR.out (fun g hg e => ?_), (H2.out.below HBC.out).keptS HKR.out hne'  (fun g hg e => ?_) (fun g hg e => ?_), hkr⟩
    · have h1 := (own_lt HV.out g hg).1
      have h2 := HS0.out
      have h3 := HK2.out.size
      omega
    · obtain ⟨cur, ho⟩ := own_objG (H2.out.sv) hg
      exact ho.ne_obj HZ2.out (by decide) e
    · obtain ⟨cur, ho⟩ := own_objG (H2.out.b) hg
      exact ho.ne_obj HZ2.out (by decide) e
end Go.Proofs.YteiifligdfnifaaDoor
