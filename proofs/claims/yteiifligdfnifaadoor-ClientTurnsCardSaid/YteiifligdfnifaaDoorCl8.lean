/-
  A client's begin, with an Open.
-/
import Derived.Test.YteiifligdfnifaaDoorCl7
namespace Go.Proofs.YteiifligdfnifaaDoor
open Go.RowKit
set_option maxRecDepth 20000
set_option linter.unusedVariables false

def setL (cs : Array Value) : Nat → List Value → Array Value
  | _, [] => cs
  | o, v :: r => setL (cs.setIfInBounds o v) (o + 1) r
theorem ObjAt.setCells {b : Nat} {t : TypeId} : ∀ (vs : List Value) (o : Nat) (w : World) (cs : Array Value), ObjAt w b t cs → ObjAt (w.setCells b o vs) b t (setL cs o vs)
  | [], _, _, _, h => h
  | v :: r, o, w, cs, h => ObjAt.setCells r (o + 1) _ _ (h.set o v)
theorem KeptS.setCells (b : Nat) : ∀ (vs : List Value) (o : Nat) (w : World), KeptS (fun j => j = b) w (w.setCells b o vs)
  | [], _, w => KeptS.refl _ w
  | v :: r, o, w => (KeptS.set (S := fun j => j = b) w ⟨b, o, none⟩ v rfl).next (KeptS.setCells b r (o + 1) _)
theorem ObjAt.thereC {w : World} {b : Nat} {t : TypeId} {cs : Array Value} (h : ObjAt w b t cs) (o n : Nat) (hn : o + n ≤ cs.size) : w.there b o n := fun j hj =>
  ⟨by rw [h.cell (o + j) cs[o + j] (Array.getElem?_eq_getElem (by omega))]; rfl, h.frozen (o + j)⟩
theorem KeptS.setRow (w : World) (b : Nat) (cs : Array Value) : KeptS (fun j => j = b) w (w.setRow b cs) := ⟨rfl, rfl, rfl, by simp [World.setRow], fun k _ hn => setRow_other w b k cs hn⟩
def callO (hd : List UInt8) (n l : Nat) : Nat → Value
  | 0 => .int .i64 1
  | 1 => .string ⟨hd.toArray⟩
  | 4 => .int .i64 (n : Int)
  | 5 => .int .i64 (l : Int)
  | 8 => .slice none 0 0
  | 9 => .string ⟨#[]⟩
  | 10 => .bool false
  | 12 => .slice none 0 0
  | _ => .int .i64 0
theorem run_storeVar_cells (ty : TypeId) (ie : TypeInfo) (hie : Tryd.prog.info? ty = some ie) (b o : Nat) (cells : Array Value) (w : World) (ht : w.there b o cells.size) (hs : ie.size = cells.size) (h1 : cells.all (·.oneCell') = true) :
    (Instr.storeAt ty (.pointer (some ⟨b, o, none⟩)) (.agg cells)).run Tryd.prog w = .ok () (w.setCells b o cells.toList) :=
  run_storeAt_mid w b o ty cells ht (by rw [hie]; simp [hs]) h1
theorem run_loadAt_obj (ty : TypeId) (w : World) (g : Nat) (t : TypeId) (cs : Array Value) (fs : Array Field) (hg : ObjAt w g t cs) (hu : Tryd.prog.underlying ty = some (.struct fs)) (hi : (Tryd.prog.info? ty).map (·.size) = some cs.size) :
    (Instr.loadAt ty (.pointer (some ⟨g, 0, none⟩))).run Tryd.prog w = .ok (.agg cs) w := by
  simp only [Instr.loadAt, Instr.sureAddr, Sem.run_bind, Sem.run_pure, Result.andThen_ok, run_loadVar_row w g t ty cs (0, 0) _ hg hu rfl hi]

theorem setL_begin (c : Cl) (s now : Int) (hd : List UInt8) (n l : Nat) (bv : Value) : setL (clC c) 4 [.bool true, .int .i64 s, .int .i64 1, .string ⟨hd.toArray⟩, .int .i64 0, .int .i64 0, .int .i64 (n : Int), .int .i64 (l : Int), .int .i64 0, .int .i64 0, .slice none 0 0, .string ⟨#[]⟩, .bool false, .int .i64 0, .slice none 0 0, bv, .int .i64 now, .int .i64 0, .bool false] = clC { c with waits := true, seq := s, call := callO hd n l, b := bv, first := now, last := 0, busy := false } := by
  cases c
  simp only [setL, clC, callO, List.setIfInBounds_toArray, List.set_cons_zero, List.set_cons_succ]
section
variable {P : Program} {ops : Array Oper} {Q : Exit → Act → World → Prop}
theorem takeT (i : Nat) (dst : Option Nat) (v : Value) {fuel : Nat} {listed : Array Bool} {a : Act} {w : World} (hi : ∃ oi, ops[i]? = some oi ∧ oi.dst = dst ∧ YieldsIf P ops (fun _ => True) oi v a)
    (hs : Region.noSelect ops = true) (hf : Region.free .any ops listed i = true) (hr : (Region.ready .any ops listed).contains i = true)
    (hQ : ∀ c a w, Q (.panic c) (a.put dst v) w → Q (.panic c) a w)
    (h : wpAnyH P .any ops Q (fun _ => True) fuel (listed.setIfInBounds i true) (a.put dst v) w) : wpAnyH P .any ops Q (fun _ => True) (fuel + 1) listed a w := by
  obtain ⟨oi, h1, h2, h3⟩ := hi
  subst h2
  exact wpAnyH_take h1 hs hf hr hQ h3 trivial h
/-- Operation i, which may come up now, goes from this world to that one. -/
theorem doesT (i : Nat) (dst : Option Nat) (v : Value) (w' : World) {fuel : Nat} {listed : Array Bool} {a : Act} {w : World} (hi : ∃ oi, ops[i]? = some oi ∧ oi.dst = dst ∧ Region.wanted oi (yielded ops a.tmps) = true ∧ (execOp a.eval oi).run P w = .ok (.value v) w')
    (h : wpAnyH P .any ops Q (fun _ => True) fuel (listed.setIfInBounds i true) (a.put dst v) w') : wpOp P ops Q i (fun a' w' => True ∧ wpAnyH P .any ops Q (fun _ => True) fuel (listed.setIfInBounds i true) a' w') a w := by
  obtain ⟨oi, h1, h2, h3, h4⟩ := hi
  subst h2
  unfold wpOp
  simp only [h1, h3, if_true, Oper.wp, h4, Oper.upon]
  exact .inl ⟨trivial, h⟩
theorem storeT (i : Nat) (w' : World) {fuel : Nat} {listed : Array Bool} {a : Act} {w : World} (hi : ∃ oi, ops[i]? = some oi ∧ oi.dst = none ∧ Region.wanted oi (yielded ops a.tmps) = true ∧ (execOp a.eval oi).run P w = .ok .skip w')
    (h : wpAnyH P .any ops Q (fun _ => True) fuel (listed.setIfInBounds i true) a w') : wpOp P ops Q i (fun a' w' => True ∧ wpAnyH P .any ops Q (fun _ => True) fuel (listed.setIfInBounds i true) a' w') a w := by
  obtain ⟨oi, h1, h2, h3, h4⟩ := hi
  unfold wpOp
  simp only [h1, h3, if_true, Oper.wp, h4, Oper.upon, h2]
  exact .inl ⟨trivial, h⟩
theorem exec_load {o : Oper} {ev : Operand → Value} {ty : TypeId} {x : Operand} {v : Value} {w w' : World} (ho : o.op = .load ty x) (h : (Instr.loadAt ty (ev x)).run P w = .ok v w') : (execOp ev o).run P w = .ok (.value v) w' := by
  unfold execOp
  simp only [ho, Sem.run_bind, Sem.run_pure, h, Result.andThen_ok]
theorem exec_store {o : Oper} {ev : Operand → Value} {ty : TypeId} {x y : Operand} {w w' : World} (ho : o.op = .store ty x y) (h : (Instr.storeAt ty (ev x) (ev y)).run P w = .ok () w') : (execOp ev o).run P w = .ok .skip w' := by
  unfold execOp
  simp only [ho, Sem.run_bind, Sem.run_pure, h, Result.andThen_ok]
theorem oneT (i : Nat) {fuel : Nat} {listed : Array Bool} {a : Act} {w : World} (hr : Region.ready .any ops listed = [i])
    (h : wpOp P ops Q i (fun a' w' => True ∧ wpAnyH P .any ops Q (fun _ => True) fuel (listed.setIfInBounds i true) a' w') a w) : wpAnyH P .any ops Q (fun _ => True) (fuel + 1) listed a w :=
  wpAnyH_all hr (by simp) (fun j hj => by rw [List.mem_singleton.1 hj]; exact h)
theorem twoT (i k : Nat) {fuel : Nat} {listed : Array Bool} {a : Act} {w : World} (hr : Region.ready .any ops listed = [i, k])
    (h : wpOp P ops Q i (fun a' w' => True ∧ wpAnyH P .any ops Q (fun _ => True) fuel (listed.setIfInBounds i true) a' w') a w)
    (h' : wpOp P ops Q k (fun a' w' => True ∧ wpAnyH P .any ops Q (fun _ => True) fuel (listed.setIfInBounds k true) a' w') a w) : wpAnyH P .any ops Q (fun _ => True) (fuel + 1) listed a w :=
  wpAnyH_all hr (by simp) (fun j hj => by
    rcases List.mem_cons.1 hj with e | e
    · rw [e]; exact h
    · rw [List.mem_singleton.1 e]; exact h')
end
set_option maxHeartbeats 8000000 in
theorem cl_begin (cb : Nat) (c : Cl) (S : List Int) (bs0 hd : List UInt8) (n l : Nat) (now : Int) (i : Nat) (hi : i < S.length) (hp : c.pos = i) (w : World) (h : ClAt w cb c S bs0) (hh : hd.length ≤ 32) (hn : n ≤ 4611686018427387903) (hl : l ≤ 4611686018427387903) (hS : S.length ≤ 8) (hs0 : 0 ≤ c.seq) (hs1 : c.seq ≤ 1099511627776) :
    Calls Tryd.prog 33 #[.pointer (some ⟨cb, 0, none⟩), .agg #[.int .i64 1, .string ⟨hd.toArray⟩, .int .i64 0, .int .i64 0, .int .i64 (n : Int), .int .i64 (l : Int), .int .i64 0, .int .i64 0, .slice none 0 0, .string ⟨#[]⟩, .bool false, .int .i64 0, .slice none 0 0], .int .i64 now] w
      (fun e w' => ∃ bv, SendP w cb { c with waits := true, seq := c.seq + 1, call := callO hd n l, b := bv, first := now, last := now, busy := false } S (openB hd n l) (S.getD i 0) e w') := by
  have HA := hid (ObjAt.new w 44 #[.int .i64 1, .string ⟨hd.toArray⟩, .int .i64 0, .int .i64 0, .int .i64 (n : Int), .int .i64 (l : Int), .int .i64 0, .int .i64 0, .slice none 0 0, .string ⟨#[]⟩, .bool false, .int .i64 0, .slice none 0 0])
  have HBA := hid (below_new (w := w) (.cells #[.int .i64 1, .string ⟨hd.toArray⟩, .int .i64 0, .int .i64 0, .int .i64 (n : Int), .int .i64 (l : Int), .int .i64 0, .int .i64 0, .slice none 0 0, .string ⟨#[]⟩, .bool false, .int .i64 0, .slice none 0 0] 44))
  have HZ := hid (ObjAt.new (w.alloc (.cells #[.int .i64 1, .string ⟨hd.toArray⟩, .int .i64 0, .int .i64 0, .int .i64 (n : Int), .int .i64 (l : Int), .int .i64 0, .int .i64 0, .slice none 0 0, .string ⟨#[]⟩, .bool false, .int .i64 0, .slice none 0 0] 44)) 39 #[.int .i64 0, .int .i64 0, .slice none 0 0])
  have HBZ := hid (below_new (w := w.alloc (.cells #[.int .i64 1, .string ⟨hd.toArray⟩, .int .i64 0, .int .i64 0, .int .i64 (n : Int), .int .i64 (l : Int), .int .i64 0, .int .i64 0, .slice none 0 0, .string ⟨#[]⟩, .bool false, .int .i64 0, .slice none 0 0] 44)) (.cells #[.int .i64 0, .int .i64 0, .slice none 0 0] 39))
  have hbz : Hid (Below w.heap.size w ((w.alloc (.cells #[.int .i64 1, .string ⟨hd.toArray⟩, .int .i64 0, .int .i64 0, .int .i64 (n : Int), .int .i64 (l : Int), .int .i64 0, .int .i64 0, .slice none 0 0, .string ⟨#[]⟩, .bool false, .int .i64 0, .slice none 0 0] 44)).alloc (.cells #[.int .i64 0, .int .i64 0, .slice none 0 0] 39))) := hid (HBA.out.trans (HBZ.out.mono HBA.out.size))
  have HA0 := hid (HA.out.below HBZ.out)
  have H0 := hid (h.below hbz.out)
  have HCA : Hid (cb < w.heap.size) := hid h.obj.lt
  have HZL : Hid ((w.alloc (.cells #[.int .i64 1, .string ⟨hd.toArray⟩, .int .i64 0, .int .i64 0, .int .i64 (n : Int), .int .i64 (l : Int), .int .i64 0, .int .i64 0, .slice none 0 0, .string ⟨#[]⟩, .bool false, .int .i64 0, .slice none 0 0] 44)).heap.size < ((w.alloc (.cells #[.int .i64 1, .string ⟨hd.toArray⟩, .int .i64 0, .int .i64 0, .int .i64 (n : Int), .int .i64 (l : Int), .int .i64 0, .int .i64 0, .slice none 0 0, .string ⟨#[]⟩, .bool false, .int .i64 0, .slice none 0 0] 44)).alloc (.cells #[.int .i64 0, .int .i64 0, .slice none 0 0] 39)).heap.size) := hid HZ.out.lt
  have HWA : Hid (w.heap.size < (w.alloc (.cells #[.int .i64 1, .string ⟨hd.toArray⟩, .int .i64 0, .int .i64 0, .int .i64 (n : Int), .int .i64 (l : Int), .int .i64 0, .int .i64 0, .slice none 0 0, .string ⟨#[]⟩, .bool false, .int .i64 0, .slice none 0 0] 44)).heap.size) := hid HA.out.lt
  have HS0 := hid hs0
  have HS1 := hid hs1
  have HN := hid hn
  have HL := hid hl
  clear h hs0 hs1 hn hl HBA HBZ HA
  go_enter Tryd.func33, Tryd.ntmps33
  go_upto_region 1 with fail
  have hsz : (w.alloc (.cells #[.int .i64 1, .string ⟨hd.toArray⟩, .int .i64 0, .int .i64 0, .int .i64 (n : Int), .int .i64 (l : Int), .int .i64 0, .int .i64 0, .slice none 0 0, .string ⟨#[]⟩, .bool false, .int .i64 0, .slice none 0 0] 44)).heap.size = w.heap.size + 1 := by simp
  rw [hsz] at HZ HZL HWA
  clear hsz
  generalize (w.alloc (.cells #[.int .i64 1, .string ⟨hd.toArray⟩, .int .i64 0, .int .i64 0, .int .i64 (n : Int), .int .i64 (l : Int), .int .i64 0, .int .i64 0, .slice none 0 0, .string ⟨#[]⟩, .bool false, .int .i64 0, .slice none 0 0] 44)).alloc (.cells #[.int .i64 0, .int .i64 0, .slice none 0 0] 39) = W0 at *
  have HAB : Hid (w.heap.size = w.heap.size) := hid rfl
  generalize hzb : w.heap.size + 1 = zb at HZ HZL HWA ⊢
  have HZB := hid hzb
  clear hzb
  generalize hab : w.heap.size = ab at HA0 HWA HCA HZB hbz ⊢
  have HABE : Hid (w.heap.size = ab) := hid hab
  clear hab HAB
  go_wp2_with (first | (refine wpList_load_row rfl 44 _ rfl ab rfl _ _ (0, 0) _ HA0.out Tryd.underlying44 rfl (by kernel_rfl) ?_))
  have hoS : oS6 ⟨hd.toArray⟩ (n : Int) (l : Int) = (openB hd n l, false) := by
    rw [oS6_is _ _ _ HN.out HL.out]
  have hlen : (openB hd n l).length ≤ 150 := by
    have := (oS_len ⟨hd.toArray⟩ (n : Int) (l : Int) (by show hd.toArray.size ≤ 32; simpa using hh)).2.2.2.2.2
    rw [hoS] at this
    exact this
  have HLEN := hid hlen
  refine (put_open ⟨hd.toArray⟩ (n : Int) (l : Int) W0 (by show hd.toArray.size ≤ 32; simpa using hh) (by rw [hoS])).mono ?_
  rintro e1 w1 ⟨bv, rfl, hov, hb1⟩
  rw [hoS] at hov
  simp only at hov
  obtain ⟨ba, bc, rfl, -, -⟩ := owns_row hov
  have HOV := hid hov
  have HB1 := hid hb1
  have HZ1 := hid (HZ.out.below hb1)
  have H1 := hid (H0.out.below hb1)
  clear hov hb1 hlen HZ H0 HA0 hoS
  go_wp2_with fail
  refine (get_open hd n l _ w1 (owns_bytes HOV.out) hh (by have := HN.out; omega) (by have := HL.out; omega) (by have := HLEN.out; omega)).mono ?_
  rintro e2 w2 ⟨rfl, hb2⟩
  have HOV2 := hid (own_keptS HOV.out (S := fun _ => False) (KeptS.of_below hb2) (fun _ _ h => h))
  have HB2 := hid (HB1.out.trans (hb2.mono HB1.out.size))
  have HZ2 := hid (HZ1.out.below hb2)
  have H2 := hid (H1.out.below hb2)
  clear hb2 HB1 HZ1 H1 HOV
  have HT := hid (ObjAt.new w2 44 #[.int .i64 0, .string ⟨#[]⟩, .int .i64 0, .int .i64 0, .int .i64 0, .int .i64 0, .int .i64 0, .int .i64 0, .slice none 0 0, .string ⟨#[]⟩, .bool false, .int .i64 0, .slice none 0 0])
  have HBT := hid (below_new (w := w2) (.cells #[.int .i64 0, .string ⟨#[]⟩, .int .i64 0, .int .i64 0, .int .i64 0, .int .i64 0, .int .i64 0, .int .i64 0, .slice none 0 0, .string ⟨#[]⟩, .bool false, .int .i64 0, .slice none 0 0] 44))
  go_upto_region 5 with (first | (refine wpList_store_row rfl 44 _ _ rfl w2.heap.size #[.int .i64 1, .string ⟨hd.toArray⟩, .int .i64 0, .int .i64 0, .int .i64 (n : Int), .int .i64 (l : Int), .int .i64 0, .int .i64 0, .slice none 0 0, .string ⟨#[]⟩, .bool false, .int .i64 0, .slice none 0 0] rfl rfl _ _ HT.out (by kernel_rfl) rfl (by kernel_rfl) ?_))
  have HT3 : Hid (ObjAt ((w2.alloc (.cells #[.int .i64 0, .string ⟨#[]⟩, .int .i64 0, .int .i64 0, .int .i64 0, .int .i64 0, .int .i64 0, .int .i64 0, .slice none 0 0, .string ⟨#[]⟩, .bool false, .int .i64 0, .slice none 0 0] 44)).setRow w2.heap.size #[.int .i64 1, .string ⟨hd.toArray⟩, .int .i64 0, .int .i64 0, .int .i64 (n : Int), .int .i64 (l : Int), .int .i64 0, .int .i64 0, .slice none 0 0, .string ⟨#[]⟩, .bool false, .int .i64 0, .slice none 0 0]) w2.heap.size 44 #[.int .i64 1, .string ⟨hd.toArray⟩, .int .i64 0, .int .i64 0, .int .i64 (n : Int), .int .i64 (l : Int), .int .i64 0, .int .i64 0, .slice none 0 0, .string ⟨#[]⟩, .bool false, .int .i64 0, .slice none 0 0]) := hid (setRow_heap _ _ _ _ _ _ HT.out)
  have HB3 : Hid (Below w2.heap.size w2 ((w2.alloc (.cells #[.int .i64 0, .string ⟨#[]⟩, .int .i64 0, .int .i64 0, .int .i64 0, .int .i64 0, .int .i64 0, .int .i64 0, .slice none 0 0, .string ⟨#[]⟩, .bool false, .int .i64 0, .slice none 0 0] 44)).setRow w2.heap.size #[.int .i64 1, .string ⟨hd.toArray⟩, .int .i64 0, .int .i64 0, .int .i64 (n : Int), .int .i64 (l : Int), .int .i64 0, .int .i64 0, .slice none 0 0, .string ⟨#[]⟩, .bool false, .int .i64 0, .slice none 0 0])) := hid (below_setRow HBT.out (Nat.le_refl _) _)
  have HTL : Hid (W0.heap.size ≤ w2.heap.size) := hid HB2.out.size
  generalize (w2.alloc (.cells #[.int .i64 0, .string ⟨#[]⟩, .int .i64 0, .int .i64 0, .int .i64 0, .int .i64 0, .int .i64 0, .int .i64 0, .slice none 0 0, .string ⟨#[]⟩, .bool false, .int .i64 0, .slice none 0 0] 44)).setRow w2.heap.size #[.int .i64 1, .string ⟨hd.toArray⟩, .int .i64 0, .int .i64 0, .int .i64 (n : Int), .int .i64 (l : Int), .int .i64 0, .int .i64 0, .slice none 0 0, .string ⟨#[]⟩, .bool false, .int .i64 0, .slice none 0 0] = w3 at *
  have H3 := hid (H2.out.below HB3.out)
  have HZ3 := hid (HZ2.out.below HB3.out)
  have HOV3 := hid (own_keptS HOV2.out (S := fun _ => False) (KeptS.of_below HB3.out) (fun _ _ h => h))
  have HB4 := hid (HB2.out.trans (HB3.out.mono HB2.out.size))
  generalize hw2 : w2.heap.size = tb at HT3 HTL ⊢
  clear HT HBT HB3 H2 HZ2 HOV2 HB2 hw2
  have hs0 := HS0.out
  have hs1 := HS1.out
  have hbd : Below w3.heap.size w3 w3.drew := below_drewN' 1
  have e5 := H3.out.obj.cell 5 (.int .i64 c.seq) rfl
  have eL := run_loadAt_obj 44 w3.drew tb 44 #[.int .i64 1, .string ⟨hd.toArray⟩, .int .i64 0, .int .i64 0, .int .i64 (n : Int), .int .i64 (l : Int), .int .i64 0, .int .i64 0, .slice none 0 0, .string ⟨#[]⟩, .bool false, .int .i64 0, .slice none 0 0] _ (HT3.out.below hbd) Tryd.underlying44 (by kernel_rfl)
  have eS : (Instr.storeAt 87 (.pointer (some ⟨cb, 4, none⟩)) (.agg #[.bool true, .int .i64 (c.seq + 1), .int .i64 1, .string ⟨hd.toArray⟩, .int .i64 0, .int .i64 0, .int .i64 (n : Int), .int .i64 (l : Int), .int .i64 0, .int .i64 0, .slice none 0 0, .string ⟨#[]⟩, .bool false, .int .i64 0, .slice none 0 0, .slice ba (openB hd n l).length bc, .int .i64 now, .int .i64 0, .bool false])).run Tryd.prog w3.drew = .ok () (w3.drew.setCells cb 4 [.bool true, .int .i64 (c.seq + 1), .int .i64 1, .string ⟨hd.toArray⟩, .int .i64 0, .int .i64 0, .int .i64 (n : Int), .int .i64 (l : Int), .int .i64 0, .int .i64 0, .slice none 0 0, .string ⟨#[]⟩, .bool false, .int .i64 0, .slice none 0 0, .slice ba (openB hd n l).length bc, .int .i64 now, .int .i64 0, .bool false]) :=
    run_storeAt_mid w3.drew cb 4 87 #[.bool true, .int .i64 (c.seq + 1), .int .i64 1, .string ⟨hd.toArray⟩, .int .i64 0, .int .i64 0, .int .i64 (n : Int), .int .i64 (l : Int), .int .i64 0, .int .i64 0, .slice none 0 0, .string ⟨#[]⟩, .bool false, .int .i64 0, .slice none 0 0, .slice ba (openB hd n l).length bc, .int .i64 now, .int .i64 0, .bool false] ((H3.out.obj.below hbd).thereC 4 19 (show 23 ≤ 32 by decide)) (by kernel_rfl) (by kernel_rfl)
  have eQ : (Instr.loadAt 3 (.pointer (some ⟨cb, 5, none⟩))).run Tryd.prog w3.drew = .ok (.int .i64 c.seq) w3.drew := by
    have e5d : w3.drew.cell? ⟨cb, 5, none⟩ = some (.int .i64 c.seq) := cell_later hbd e5
    go_simp
  have hwr : IntKind.i64.wrap (c.seq + 1) = c.seq + 1 := by rw [IntKind.wrap_i64]; omega
  have HKC := hid (KeptS.setCells cb [.bool true, .int .i64 (c.seq + 1), .int .i64 1, .string ⟨hd.toArray⟩, .int .i64 0, .int .i64 0, .int .i64 (n : Int), .int .i64 (l : Int), .int .i64 0, .int .i64 0, .slice none 0 0, .string ⟨#[]⟩, .bool false, .int .i64 0, .slice none 0 0, .slice ba (openB hd n l).length bc, .int .i64 now, .int .i64 0, .bool false] 4 w3.drew)
  have HKD : Hid (KeptS (fun j => j = cb) w3 (w3.drew.setCells cb 4 [.bool true, .int .i64 (c.seq + 1), .int .i64 1, .string ⟨hd.toArray⟩, .int .i64 0, .int .i64 0, .int .i64 (n : Int), .int .i64 (l : Int), .int .i64 0, .int .i64 0, .slice none 0 0, .string ⟨#[]⟩, .bool false, .int .i64 0, .slice none 0 0, .slice ba (openB hd n l).length bc, .int .i64 now, .int .i64 0, .bool false])) := hid ((KeptS.of_below (S := fun j => j = cb) hbd).next HKC.out)
  have HO4 := hid (ObjAt.setCells [.bool true, .int .i64 (c.seq + 1), .int .i64 1, .string ⟨hd.toArray⟩, .int .i64 0, .int .i64 0, .int .i64 (n : Int), .int .i64 (l : Int), .int .i64 0, .int .i64 0, .slice none 0 0, .string ⟨#[]⟩, .bool false, .int .i64 0, .slice none 0 0, .slice ba (openB hd n l).length bc, .int .i64 now, .int .i64 0, .bool false] 4 w3.drew _ (H3.out.obj.below hbd))
  have hcb0 : cb < W0.heap.size := by have := HCA.out; have := HWA.out; have := HZL.out; omega
  have hb4 : (w3.drew.setCells cb 4 [.bool true, .int .i64 (c.seq + 1), .int .i64 1, .string ⟨hd.toArray⟩, .int .i64 0, .int .i64 0, .int .i64 (n : Int), .int .i64 (l : Int), .int .i64 0, .int .i64 0, .slice none 0 0, .string ⟨#[]⟩, .bool false, .int .i64 0, .slice none 0 0, .slice ba (openB hd n l).length bc, .int .i64 now, .int .i64 0, .bool false]).ownsRow W0.heap.size 5 1 (.slice ba (openB hd n l).length bc) (openB hd n l).length ((openB hd n l).map byt) :=
    own_keptS HOV3.out HKD.out (fun g hg e => by have := (own_lt HOV3.out g hg).1; omega)
  have H4 : Hid (ClAt (w3.drew.setCells cb 4 [.bool true, .int .i64 (c.seq + 1), .int .i64 1, .string ⟨hd.toArray⟩, .int .i64 0, .int .i64 0, .int .i64 (n : Int), .int .i64 (l : Int), .int .i64 0, .int .i64 0, .slice none 0 0, .string ⟨#[]⟩, .bool false, .int .i64 0, .slice none 0 0, .slice ba (openB hd n l).length bc, .int .i64 now, .int .i64 0, .bool false]) cb { c with waits := true, seq := c.seq + 1, call := callO hd n l, b := .slice ba (openB hd n l).length bc, first := now, last := 0, busy := false } S (openB hd n l)) :=
    hid ⟨(setL_begin c (c.seq + 1) now hd n l (.slice ba (openB hd n l).length bc)) ▸ HO4.out, own_keptS H3.out.sv HKD.out H3.out.sv_ne, owns_base hb4 (Nat.zero_le _)⟩
  have hzc : ¬ (zb = cb) := fun e => by have := HCA.out; have := HWA.out; omega
  have HZ4 := hid (HZ3.out.keptS HKD.out hzc)
  generalize w3.drew.setCells cb 4 [.bool true, .int .i64 (c.seq + 1), .int .i64 1, .string ⟨hd.toArray⟩, .int .i64 0, .int .i64 0, .int .i64 (n : Int), .int .i64 (l : Int), .int .i64 0, .int .i64 0, .slice none 0 0, .string ⟨#[]⟩, .bool false, .int .i64 0, .slice none 0 0, .slice ba (openB hd n l).length bc, .int .i64 now, .int .i64 0, .bool false] = w4 at eS HKD H4 HZ4
  clear hbd HKC HO4 hb4 hzc
  refine wp_region_held_drew (S := fun _ => True) (by kernel_rfl) trivial (fun _ => ?_)
  refine takeT 0 (some 25) (.pointer (some ⟨cb, 0, none⟩)) ⟨_, rfl, rfl, Or.inl ⟨by rfl, fun w _ => by kernel_rfl⟩⟩ (by kernel_rfl) (by kernel_rfl) (by kernel_rfl) (fun _ _ _ h => h) ?_
  simp only [Act.put, List.setIfInBounds_toArray, List.set_cons_zero, List.set_cons_succ]
  refine takeT 1 (some 26) (.pointer (some ⟨cb, 0, none⟩)) ⟨_, rfl, rfl, Or.inl ⟨by rfl, fun w _ => by kernel_rfl⟩⟩ (by kernel_rfl) (by kernel_rfl) (by kernel_rfl) (fun _ _ _ h => h) ?_
  simp only [Act.put, List.setIfInBounds_toArray, List.set_cons_zero, List.set_cons_succ]
  refine takeT 2 (some 27) (.pointer (some ⟨cb, 0, none⟩)) ⟨_, rfl, rfl, Or.inl ⟨by rfl, fun w _ => by kernel_rfl⟩⟩ (by kernel_rfl) (by kernel_rfl) (by kernel_rfl) (fun _ _ _ h => h) ?_
  simp only [Act.put, List.setIfInBounds_toArray, List.set_cons_zero, List.set_cons_succ]
  refine takeT 3 (some 28) (.pointer (some ⟨cb, 4, none⟩)) ⟨_, rfl, rfl, Or.inl ⟨by rfl, fun w _ => by kernel_rfl⟩⟩ (by kernel_rfl) (by kernel_rfl) (by kernel_rfl) (fun _ _ _ h => h) ?_
  simp only [Act.put, List.setIfInBounds_toArray, List.set_cons_zero, List.set_cons_succ]
  refine takeT 4 (some 29) (.pointer (some ⟨cb, 5, none⟩)) ⟨_, rfl, rfl, Or.inl ⟨by rfl, fun w _ => by kernel_rfl⟩⟩ (by kernel_rfl) (by kernel_rfl) (by kernel_rfl) (fun _ _ _ h => h) ?_
  simp only [Act.put, List.setIfInBounds_toArray, List.set_cons_zero, List.set_cons_succ]
  refine takeT 8 (some 33) (.slice ba (openB hd n l).length bc) ⟨_, rfl, rfl, Or.inl ⟨by rfl, fun w _ => by kernel_rfl⟩⟩ (by kernel_rfl) (by kernel_rfl) (by kernel_rfl) (fun _ _ _ h => h) ?_
  simp only [Act.put, List.setIfInBounds_toArray, List.set_cons_zero, List.set_cons_succ]
  refine takeT 9 (some 34) (.int .i64 now) ⟨_, rfl, rfl, Or.inl ⟨by rfl, fun w _ => by kernel_rfl⟩⟩ (by kernel_rfl) (by kernel_rfl) (by kernel_rfl) (fun _ _ _ h => h) ?_
  simp only [Act.put, List.setIfInBounds_toArray, List.set_cons_zero, List.set_cons_succ]
  refine twoT 5 7 (by kernel_rfl) ?_ ?_
  · refine doesT 5 (some 30) (.int .i64 c.seq) _ ⟨_, rfl, rfl, by rfl, exec_load rfl eQ⟩ ?_
    simp only [Act.put, List.setIfInBounds_toArray, List.set_cons_zero, List.set_cons_succ]
    refine takeT 6 (some 31) (.int .i64 (c.seq + 1)) ⟨_, rfl, rfl, Or.inl ⟨by rfl, fun w _ => by go_simp⟩⟩ (by kernel_rfl) (by kernel_rfl) (by kernel_rfl) (fun _ _ _ h => h) ?_
    simp only [Act.put, List.setIfInBounds_toArray, List.set_cons_zero, List.set_cons_succ]
    refine oneT 7 (by kernel_rfl) ?_
    refine doesT 7 (some 32) (.agg #[.int .i64 1, .string ⟨hd.toArray⟩, .int .i64 0, .int .i64 0, .int .i64 (n : Int), .int .i64 (l : Int), .int .i64 0, .int .i64 0, .slice none 0 0, .string ⟨#[]⟩, .bool false, .int .i64 0, .slice none 0 0]) _ ⟨_, rfl, rfl, by rfl, exec_load rfl eL⟩ ?_
    simp only [Act.put, List.setIfInBounds_toArray, List.set_cons_zero, List.set_cons_succ]
    refine takeT 10 (some 35) (.agg #[.bool true, .int .i64 (c.seq + 1), .int .i64 1, .string ⟨hd.toArray⟩, .int .i64 0, .int .i64 0, .int .i64 (n : Int), .int .i64 (l : Int), .int .i64 0, .int .i64 0, .slice none 0 0, .string ⟨#[]⟩, .bool false, .int .i64 0, .slice none 0 0, .slice ba (openB hd n l).length bc, .int .i64 now, .int .i64 0, .bool false]) ⟨_, rfl, rfl, Or.inl ⟨by rfl, fun w _ => by kernel_rfl⟩⟩ (by kernel_rfl) (by kernel_rfl) (by kernel_rfl) (fun _ _ _ h => h) ?_
    simp only [Act.put, List.setIfInBounds_toArray, List.set_cons_zero, List.set_cons_succ]
    refine takeT 11 (some 36) (.pointer (some ⟨cb, 0, none⟩)) ⟨_, rfl, rfl, Or.inl ⟨by rfl, fun w _ => by kernel_rfl⟩⟩ (by kernel_rfl) (by kernel_rfl) (by kernel_rfl) (fun _ _ _ h => h) ?_
    simp only [Act.put, List.setIfInBounds_toArray, List.set_cons_zero, List.set_cons_succ]
    refine takeT 12 (some 37) (.pointer (some ⟨cb, 4, none⟩)) ⟨_, rfl, rfl, Or.inl ⟨by rfl, fun w _ => by kernel_rfl⟩⟩ (by kernel_rfl) (by kernel_rfl) (by kernel_rfl) (fun _ _ _ h => h) ?_
    simp only [Act.put, List.setIfInBounds_toArray, List.set_cons_zero, List.set_cons_succ]
    refine oneT 13 (by kernel_rfl) ?_
    refine storeT 13 _ ⟨_, rfl, rfl, by rfl, exec_store rfl eS⟩ ?_
    refine wpAnyH_done (by kernel_rfl) ?_ _
    clear eS eL eQ e5 hwr hs0 hs1
    go_wp2_with fail
    refine (cl_send cb { c with waits := true, seq := c.seq + 1, call := callO hd n l, b := .slice ba (openB hd n l).length bc, first := now, last := 0, busy := false } S (openB hd n l) now i hi hp w4 H4.out (by have := HLEN.out; omega) hS).mono ?_
    rintro e5 w5 ⟨v, rfl, hov, hcl, hk⟩
    have HV := hid hov
    have H5 := hid hcl
    have HK5 := hid hk
    have HZ5 := hid (HZ4.out.keptS hk (fun e => by have := HCA.out; have := HWA.out; omega))
    obtain ⟨va, vc, rfl, -, -⟩ := owns_row hov
    clear hov hcl hk
    generalize hx : S.getD i 0 = x
    have HX := hid hx
    clear hx
    go_wp2_with (first | (refine wpList_store_row rfl 39 _ _ rfl zb #[.int .i64 x, .int .i64 (c.seq + 1), .slice va (openB hd n l).length vc] rfl rfl _ _ HZ5.out (by kernel_rfl) rfl (by kernel_rfl) ?_))
    have hksr : KeptS (fun j => j = zb) w5 (w5.setRow zb #[.int .i64 x, .int .i64 (c.seq + 1), .slice va (openB hd n l).length vc]) := KeptS.setRow _ _ _
    have HKR := hid hksr
    have HR : Hid (ObjAt (w5.setRow zb #[.int .i64 x, .int .i64 (c.seq + 1), .slice va (openB hd n l).length vc]) zb 39 #[.int .i64 x, .int .i64 (c.seq + 1), .slice va (openB hd n l).length vc]) := hid (setRow_heap _ _ _ _ _ _ HZ5.out)
    clear hksr
    generalize w5.setRow zb #[.int .i64 x, .int .i64 (c.seq + 1), .slice va (openB hd n l).length vc] = wr at *
    refine bodyPost_ret_by (results_cell2 rfl _ _ zb _ _ _ rfl HR.out Tryd.underlying39 (by kernel_rfl)) rfl ?_
    have hbz' : Below w.heap.size w W0 := HABE.out ▸ hbz.out
    have hzw : w.heap.size ≤ zb := by have := HABE.out; have := HWA.out; omega
    have hW0 : w.heap.size ≤ W0.heap.size := hbz'.size
    have hw3 : W0.heap.size ≤ w3.heap.size := HB4.out.size
    have hw4 : w3.heap.size ≤ w4.heap.size := HKD.out.size
    have hT : ∀ {a b : World}, KeptS (fun j => j = cb) a b → KeptS (fun j => j = zb ∨ j = cb) a b := fun h => h.imp (fun k e => .inr e)
    have hkr : KeptS (fun j => j = cb) w wr := keptS_skip (zb := zb) ((((KeptS.of_below (S := fun j => j = zb ∨ j = cb) (hbz'.trans (HB4.out.mono hbz'.size))).next (hT HKD.out)).next (hT HK5.out)).next (HKR.out.imp (fun k e => .inl e))) hzw
    have hcz : ¬ cb = zb := fun e => by have := HCA.out; have := HWA.out; omega
    refine ⟨_, .slice va (openB hd n l).length vc, by rw [HX.out]; rfl, own_keptS (owns_base HV.out (by omega)) HKR.out (fun g hg e => ?_), H5.out.keptS HKR.out hcz (fun g hg e => ?_) (fun g hg e => ?_), hkr⟩
    · have h1 := (own_lt HV.out g hg).1
      have := HZL.out
      omega
    · obtain ⟨cur, ho⟩ := own_objG (H5.out.sv) hg
      exact ho.ne_obj HZ5.out (by decide) e
    · obtain ⟨cur, ho⟩ := own_objG (H5.out.b) hg
      exact ho.ne_obj HZ5.out (by decide) e
  · refine doesT 7 (some 32) (.agg #[.int .i64 1, .string ⟨hd.toArray⟩, .int .i64 0, .int .i64 0, .int .i64 (n : Int), .int .i64 (l : Int), .int .i64 0, .int .i64 0, .slice none 0 0, .string ⟨#[]⟩, .bool false, .int .i64 0, .slice none 0 0]) _ ⟨_, rfl, rfl, by rfl, exec_load rfl eL⟩ ?_
    simp only [Act.put, List.setIfInBounds_toArray, List.set_cons_zero, List.set_cons_succ]
    refine oneT 5 (by kernel_rfl) ?_
    refine doesT 5 (some 30) (.int .i64 c.seq) _ ⟨_, rfl, rfl, by rfl, exec_load rfl eQ⟩ ?_
    simp only [Act.put, List.setIfInBounds_toArray, List.set_cons_zero, List.set_cons_succ]
    refine takeT 6 (some 31) (.int .i64 (c.seq + 1)) ⟨_, rfl, rfl, Or.inl ⟨by rfl, fun w _ => by go_simp⟩⟩ (by kernel_rfl) (by kernel_rfl) (by kernel_rfl) (fun _ _ _ h => h) ?_
    simp only [Act.put, List.setIfInBounds_toArray, List.set_cons_zero, List.set_cons_succ]
    refine takeT 10 (some 35) (.agg #[.bool true, .int .i64 (c.seq + 1), .int .i64 1, .string ⟨hd.toArray⟩, .int .i64 0, .int .i64 0, .int .i64 (n : Int), .int .i64 (l : Int), .int .i64 0, .int .i64 0, .slice none 0 0, .string ⟨#[]⟩, .bool false, .int .i64 0, .slice none 0 0, .slice ba (openB hd n l).length bc, .int .i64 now, .int .i64 0, .bool false]) ⟨_, rfl, rfl, Or.inl ⟨by rfl, fun w _ => by kernel_rfl⟩⟩ (by kernel_rfl) (by kernel_rfl) (by kernel_rfl) (fun _ _ _ h => h) ?_
    simp only [Act.put, List.setIfInBounds_toArray, List.set_cons_zero, List.set_cons_succ]
    refine takeT 11 (some 36) (.pointer (some ⟨cb, 0, none⟩)) ⟨_, rfl, rfl, Or.inl ⟨by rfl, fun w _ => by kernel_rfl⟩⟩ (by kernel_rfl) (by kernel_rfl) (by kernel_rfl) (fun _ _ _ h => h) ?_
    simp only [Act.put, List.setIfInBounds_toArray, List.set_cons_zero, List.set_cons_succ]
    refine takeT 12 (some 37) (.pointer (some ⟨cb, 4, none⟩)) ⟨_, rfl, rfl, Or.inl ⟨by rfl, fun w _ => by kernel_rfl⟩⟩ (by kernel_rfl) (by kernel_rfl) (by kernel_rfl) (fun _ _ _ h => h) ?_
    simp only [Act.put, List.setIfInBounds_toArray, List.set_cons_zero, List.set_cons_succ]
    refine oneT 13 (by kernel_rfl) ?_
    refine storeT 13 _ ⟨_, rfl, rfl, by rfl, exec_store rfl eS⟩ ?_
    refine wpAnyH_done (by kernel_rfl) ?_ _
    clear eS eL eQ e5 hwr hs0 hs1
    go_wp2_with fail
    refine (cl_send cb { c with waits := true, seq := c.seq + 1, call := callO hd n l, b := .slice ba (openB hd n l).length bc, first := now, last := 0, busy := false } S (openB hd n l) now i hi hp w4 H4.out (by have := HLEN.out; omega) hS).mono ?_
    rintro e5 w5 ⟨v, rfl, hov, hcl, hk⟩
    have HV := hid hov
    have H5 := hid hcl
    have HK5 := hid hk
    have HZ5 := hid (HZ4.out.keptS hk (fun e => by have := HCA.out; have := HWA.out; omega))
    obtain ⟨va, vc, rfl, -, -⟩ := owns_row hov
    clear hov hcl hk
    generalize hx : S.getD i 0 = x
    have HX := hid hx
    clear hx
    go_wp2_with (first | (refine wpList_store_row rfl 39 _ _ rfl zb #[.int .i64 x, .int .i64 (c.seq + 1), .slice va (openB hd n l).length vc] rfl rfl _ _ HZ5.out (by kernel_rfl) rfl (by kernel_rfl) ?_))
    have hksr : KeptS (fun j => j = zb) w5 (w5.setRow zb #[.int .i64 x, .int .i64 (c.seq + 1), .slice va (openB hd n l).length vc]) := KeptS.setRow _ _ _
    have HKR := hid hksr
    have HR : Hid (ObjAt (w5.setRow zb #[.int .i64 x, .int .i64 (c.seq + 1), .slice va (openB hd n l).length vc]) zb 39 #[.int .i64 x, .int .i64 (c.seq + 1), .slice va (openB hd n l).length vc]) := hid (setRow_heap _ _ _ _ _ _ HZ5.out)
    clear hksr
    generalize w5.setRow zb #[.int .i64 x, .int .i64 (c.seq + 1), .slice va (openB hd n l).length vc] = wr at *
    refine bodyPost_ret_by (results_cell2 rfl _ _ zb _ _ _ rfl HR.out Tryd.underlying39 (by kernel_rfl)) rfl ?_
    have hbz' : Below w.heap.size w W0 := HABE.out ▸ hbz.out
    have hzw : w.heap.size ≤ zb := by have := HABE.out; have := HWA.out; omega
    have hW0 : w.heap.size ≤ W0.heap.size := hbz'.size
    have hw3 : W0.heap.size ≤ w3.heap.size := HB4.out.size
    have hw4 : w3.heap.size ≤ w4.heap.size := HKD.out.size
    have hT : ∀ {a b : World}, KeptS (fun j => j = cb) a b → KeptS (fun j => j = zb ∨ j = cb) a b := fun h => h.imp (fun k e => .inr e)
    have hkr : KeptS (fun j => j = cb) w wr := keptS_skip (zb := zb) ((((KeptS.of_below (S := fun j => j = zb ∨ j = cb) (hbz'.trans (HB4.out.mono hbz'.size))).next (hT HKD.out)).next (hT HK5.out)).next (HKR.out.imp (fun k e => .inl e))) hzw
    have hcz : ¬ cb = zb := fun e => by have := HCA.out; have := HWA.out; omega
    refine ⟨_, .slice va (openB hd n l).length vc, by rw [HX.out]; rfl, own_keptS (owns_base HV.out (by omega)) HKR.out (fun g hg e => ?_), H5.out.keptS HKR.out hcz (fun g hg e => ?_) (fun g hg e => ?_), hkr⟩
    · have h1 := (own_lt HV.out g hg).1
      have := HZL.out
      omega
    · obtain ⟨cur, ho⟩ := own_objG (H5.out.sv) hg
      exact ho.ne_obj HZ5.out (by decide) e
    · obtain ⟨cur, ho⟩ := own_objG (H5.out.b) hg
      exact ho.ne_obj HZ5.out (by decide) e
end Go.Proofs.YteiifligdfnifaaDoor
