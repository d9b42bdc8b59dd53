/-
  The law's own functions: of, usual, awake; the document's Right.
-/
import Derived.Test.YteiifligdfnifaaDoorCla
import Derived.Test.YteiifligdfnifaaDoorPathNR
namespace Go.Proofs.YteiifligdfnifaaDoor
open Go.RowKit
set_option maxRecDepth 20000
set_option linter.unusedVariables false

theorem results_cell1 {P : Program} {fn : Func} {p : Tmp} {ty : TypeId} (h : fn.results = #[.cell p ty]) (tmps : Array Value) (w : World) (g : Nat) (t : TypeId) (cs : Array Value) (fs : Array Field)
    (hp : tmps.getD p undef = .pointer (some ⟨g, 0, none⟩)) (hg : ObjAt w g t cs) (hu : P.underlying ty = some (.struct fs)) (hi : (P.info? ty).map (·.size) = some cs.size) :
    (results fn tmps).run P w = .ok (.agg cs) w := by
  simp only [results, h]
  simp [Sem.run_bind, Result.andThen]
  have hp' : tmps[p]?.getD undef = .pointer (some ⟨g, 0, none⟩) := by rw [← hp]; simp
  rw [hp']
  simp [asAddr, run_loadVar_row w g t ty cs (0, 0) (.struct fs) hg hu rfl hi]
def cfA (c : Cfg) : Value := .agg #[.string ⟨c.home.toArray⟩, .int .i64 c.nonce, .int .i64 c.lease, .slice c.sa c.S.length c.sc, .int .i64 c.pat, .int .i64 c.p, .int .i64 c.q]
def cfR (c : Cfg) : Value := .agg #[.string ⟨c.home.toArray⟩, .int .i64 c.nonce, .int .i64 c.lease, .int .i64 c.pat, .slice c.sa c.S.length c.sc, .int .i64 c.p, .int .i64 c.q]
theorem cl_of (c : Cfg) (w : World) : Calls Tryd.prog 9 #[cfA c] w fun e w' => e = .returned (cfR c) ∧ Below w.heap.size w w' := by
  obtain ⟨home, nonce, lease, S, sa, sc, pat, p, q⟩ := c
  unfold cfA cfR
  simp only
  have HC := hid (ObjAt.new w 26 #[.string ⟨home.toArray⟩, .int .i64 nonce, .int .i64 lease, .slice sa S.length sc, .int .i64 pat, .int .i64 p, .int .i64 q])
  have HB := hid (below_new (w := w) (.cells #[.string ⟨home.toArray⟩, .int .i64 nonce, .int .i64 lease, .slice sa S.length sc, .int .i64 pat, .int .i64 p, .int .i64 q] 26))
  have HD := hid (ObjAt.new (w.alloc (.cells #[.string ⟨home.toArray⟩, .int .i64 nonce, .int .i64 lease, .slice sa S.length sc, .int .i64 pat, .int .i64 p, .int .i64 q] 26)) 34 #[.string ⟨#[]⟩, .int .i64 0, .int .i64 0, .int .i64 0, .slice none 0 0, .int .i64 0, .int .i64 0])
  have HE := hid (below_new (w := w.alloc (.cells #[.string ⟨home.toArray⟩, .int .i64 nonce, .int .i64 lease, .slice sa S.length sc, .int .i64 pat, .int .i64 p, .int .i64 q] 26)) (.cells #[.string ⟨#[]⟩, .int .i64 0, .int .i64 0, .int .i64 0, .slice none 0 0, .int .i64 0, .int .i64 0] 34))
  have HC1 := hid (HC.out.below HE.out)
  have HB1 := hid (HB.out.trans (HE.out.mono HB.out.size))
  go_enter Tryd.func9, Tryd.ntmps9
  go_upto_region 1 with fail
  clear HC HE HB
  have hs1 : (w.alloc (.cells #[.string ⟨home.toArray⟩, .int .i64 nonce, .int .i64 lease, .slice sa S.length sc, .int .i64 pat, .int .i64 p, .int .i64 q] 26)).heap.size = w.heap.size + 1 := by simp
  rw [hs1] at HD
  clear hs1
  generalize (w.alloc (.cells #[.string ⟨home.toArray⟩, .int .i64 nonce, .int .i64 lease, .slice sa S.length sc, .int .i64 pat, .int .i64 p, .int .i64 q] 26)).alloc (.cells #[.string ⟨#[]⟩, .int .i64 0, .int .i64 0, .int .i64 0, .slice none 0 0, .int .i64 0, .int .i64 0] 34) = W0 at *
  generalize hkb : w.heap.size = kb at HC1 ⊢
  have HKB := hid hkb
  clear hkb
  have HK1 : Hid (w.heap.size ≤ kb + 1) := by show w.heap.size ≤ kb + 1; rw [HKB.out]; omega
  rw [HKB.out] at HD
  have c0 := HC1.out.cell 0 (.string ⟨home.toArray⟩) rfl
  have c1 := HC1.out.cell 1 (.int .i64 nonce) rfl
  have c2 := HC1.out.cell 2 (.int .i64 lease) rfl
  have c3 := HC1.out.cell 3 (.slice sa S.length sc) rfl
  have c4 := HC1.out.cell 4 (.int .i64 pat) rfl
  have c5 := HC1.out.cell 5 (.int .i64 p) rfl
  have c6 := HC1.out.cell 6 (.int .i64 q) rfl
  generalize kb + 1 = zb at *
  go_wp2_with (first | (refine wpList_store_row rfl 34 _ _ rfl zb #[.string ⟨home.toArray⟩, .int .i64 nonce, .int .i64 lease, .int .i64 pat, .slice sa S.length sc, .int .i64 p, .int .i64 q] rfl rfl _ _ HD.out (by kernel_rfl) rfl (by kernel_rfl) ?_))
  have HR : Hid (ObjAt (W0.setRow zb #[.string ⟨home.toArray⟩, .int .i64 nonce, .int .i64 lease, .int .i64 pat, .slice sa S.length sc, .int .i64 p, .int .i64 q]) zb 34 #[.string ⟨home.toArray⟩, .int .i64 nonce, .int .i64 lease, .int .i64 pat, .slice sa S.length sc, .int .i64 p, .int .i64 q]) := hid (setRow_heap _ _ _ _ _ _ HD.out)
  have HKR : Hid (Below w.heap.size w (W0.setRow zb #[.string ⟨home.toArray⟩, .int .i64 nonce, .int .i64 lease, .int .i64 pat, .slice sa S.length sc, .int .i64 p, .int .i64 q])) := hid (below_setRow HB1.out HK1.out _)
  generalize W0.setRow zb #[.string ⟨home.toArray⟩, .int .i64 nonce, .int .i64 lease, .int .i64 pat, .slice sa S.length sc, .int .i64 p, .int .i64 q] = wr at *
  refine bodyPost_ret_by (results_cell1 rfl _ _ zb _ _ _ rfl HR.out Tryd.underlying34 (by kernel_rfl)) rfl ?_
  exact ⟨rfl, HKR.out⟩
def C0 (a : Option Addr) : Cfg := ⟨[97], 5, 100, [0, 1, 2], a, 3, 10, 2, 1⟩
theorem cl_usual (w : World) : Calls Tryd.prog 22 #[] w fun e w' => ∃ a, e = .returned (cfA (C0 (some a))) ∧ RowAt w' (some a) (([0, 1, 2] : List Int).map (Value.int .i64)) ∧ Below w.heap.size w w' := by
  unfold cfA C0
  simp only
  have HD := hid (ObjAt.new w 26 #[.string ⟨#[]⟩, .int .i64 0, .int .i64 0, .slice none 0 0, .int .i64 0, .int .i64 0, .int .i64 0])
  have HB := hid (below_new (w := w) (.cells #[.string ⟨#[]⟩, .int .i64 0, .int .i64 0, .slice none 0 0, .int .i64 0, .int .i64 0, .int .i64 0] 26))
  have HE := hid (below_new (w := w.alloc (.cells #[.string ⟨#[]⟩, .int .i64 0, .int .i64 0, .slice none 0 0, .int .i64 0, .int .i64 0, .int .i64 0] 26)) (.cells #[.int .i64 0, .int .i64 1, .int .i64 2] 3))
  have hs1 : (w.alloc (.cells #[.string ⟨#[]⟩, .int .i64 0, .int .i64 0, .slice none 0 0, .int .i64 0, .int .i64 0, .int .i64 0] 26)).heap.size = w.heap.size + 1 := by simp
  have HD1 := hid (HD.out.below HE.out)
  have HB1 := hid (HB.out.trans (HE.out.mono HB.out.size))
  have HR1 : Hid (RowAt ((w.alloc (.cells #[.string ⟨#[]⟩, .int .i64 0, .int .i64 0, .slice none 0 0, .int .i64 0, .int .i64 0, .int .i64 0] 26)).alloc (.cells #[.int .i64 0, .int .i64 1, .int .i64 2] 3)) (some ⟨(w.alloc (.cells #[.string ⟨#[]⟩, .int .i64 0, .int .i64 0, .slice none 0 0, .int .i64 0, .int .i64 0, .int .i64 0] 26)).heap.size, 0, none⟩) (([0, 1, 2] : List Int).map (Value.int .i64))) := RowAt.new _ _ _ _
  rw [hs1] at HR1
  go_enter Tryd.func22, Tryd.ntmps22
  go_wp2_with (first | (refine wpList_store_row rfl 26 _ _ rfl w.heap.size #[.string ⟨#[97]⟩, .int .i64 5, .int .i64 100, .slice (some ⟨w.heap.size + 1, 0, none⟩) 3 3, .int .i64 10, .int .i64 2, .int .i64 1] rfl rfl _ _ HD1.out (by kernel_rfl) rfl (by kernel_rfl) ?_))
  generalize hw1 : (w.alloc (.cells #[.string ⟨#[]⟩, .int .i64 0, .int .i64 0, .slice none 0 0, .int .i64 0, .int .i64 0, .int .i64 0] 26)).alloc (.cells #[.int .i64 0, .int .i64 1, .int .i64 2] 3) = W1 at *
  have HR : Hid (ObjAt (W1.setRow w.heap.size #[.string ⟨#[97]⟩, .int .i64 5, .int .i64 100, .slice (some ⟨w.heap.size + 1, 0, none⟩) 3 3, .int .i64 10, .int .i64 2, .int .i64 1]) w.heap.size 26 #[.string ⟨#[97]⟩, .int .i64 5, .int .i64 100, .slice (some ⟨w.heap.size + 1, 0, none⟩) 3 3, .int .i64 10, .int .i64 2, .int .i64 1]) := hid (setRow_heap _ _ _ _ _ _ HD1.out)
  have HKR : Hid (Below w.heap.size w (W1.setRow w.heap.size #[.string ⟨#[97]⟩, .int .i64 5, .int .i64 100, .slice (some ⟨w.heap.size + 1, 0, none⟩) 3 3, .int .i64 10, .int .i64 2, .int .i64 1])) := hid (below_setRow HB1.out (Nat.le_refl _) _)
  have HQ : Hid (RowAt (W1.setRow w.heap.size #[.string ⟨#[97]⟩, .int .i64 5, .int .i64 100, .slice (some ⟨w.heap.size + 1, 0, none⟩) 3 3, .int .i64 10, .int .i64 2, .int .i64 1]) (some ⟨w.heap.size + 1, 0, none⟩) (([0, 1, 2] : List Int).map (Value.int .i64))) := hid (HR1.out.keptS (KeptS.setRow W1 w.heap.size _) (fun ad e => by cases e; show ¬ w.heap.size + 1 = w.heap.size; omega))
  generalize W1.setRow w.heap.size #[.string ⟨#[97]⟩, .int .i64 5, .int .i64 100, .slice (some ⟨w.heap.size + 1, 0, none⟩) 3 3, .int .i64 10, .int .i64 2, .int .i64 1] = wr at *
  refine bodyPost_ret_by (results_cell1 rfl _ _ w.heap.size _ _ _ rfl HR.out Tryd.underlying26 (by kernel_rfl)) rfl ?_
  exact ⟨_, rfl, HQ.out, HKR.out⟩
end Go.Proofs.YteiifligdfnifaaDoor
