/-
  New, Queue, Watches, Cursor.
-/
import Derived.Test.YtjnbflhpboheiaaDoorWt8
import Derived.WalkSpells
namespace Go.Proofs.YtjnbflhpboheiaaDoor
open Go.RowKit Go.ChangeMaps
set_option maxRecDepth 20000
set_option linter.unusedVariables false

theorem HubT.new (w : World) : HubT ((w.alloc (.map #[] 0)).alloc (.cells #[.map (some w.heap.size)] 55)) (w.heap.size + 1) w.heap.size [] := by
  refine ⟨?_, (MapAt.new w skey).below (below_new _), fun d hd => (by simp at hd), by simp, by simp, fun d hd => (by simp at hd), by simp⟩
  have h := ObjAt.new (w.alloc (.map #[] 0)) 55 #[.map (some w.heap.size)]
  rw [show (w.alloc (.map #[] 0)).heap.size = w.heap.size + 1 from by simp] at h
  exact h
theorem hub_new (w : World) : Calls Tryd.prog 6 #[] w fun e w' => ∃ hb mh, e = .returned (.pointer (some ⟨hb, 0, none⟩)) ∧ HubT w' hb mh [] ∧ w.heap.size ≤ hb ∧ w.heap.size ≤ mh ∧ Below w.heap.size w w' := by
  have HN := hid (HubT.new w)
  have HB : Hid (Below w.heap.size w ((w.alloc (.map #[] 0)).alloc (.cells #[.map (some w.heap.size)] 55))) := (below_new _).alloc (by simp) _
  have hmm := @run_makeMap Tryd.prog
  go_enter Tryd.func6, Tryd.ntmps6
  go_wp2_with fail
  go_ret
  exact ⟨w.heap.size + 1, w.heap.size, rfl, HN.out, by omega, Nat.le_refl _, HB.out⟩

theorem evC_len (e : Ev) : (evC e).length = 3 := rfl
theorem flat_len {α : Type} {f : α → List Value} {c : Nat} (hc : ∀ x, (f x).length = c) : ∀ L : List α, (L.flatMap f).length = L.length * c
  | [] => by simp
  | x :: L => by rw [List.flatMap_cons, List.length_append, hc, flat_len hc L, List.length_cons, Nat.add_mul]; omega
theorem evC_one (es : List Ev) : ∀ u ∈ es.flatMap evC, u.oneCell' = true := fun u hu => by
  obtain ⟨e, _, he⟩ := List.mem_flatMap.1 hu
  simp only [evC, List.mem_cons, List.not_mem_nil, or_false] at he
  rcases he with rfl | rfl | rfl <;> rfl
theorem own_addr {w : World} {base : Nat} {e : TypeId} {size n : Nat} {v : Value} {xs : List Value} (h : w.ownsRow base e size v n xs) : ∃ a c, v = .slice a n c ∧ RowAt w a xs ∧ (a = none → n = 0 ∧ c = 0) := by
  obtain ⟨a, c, rfl, hr, hn, -⟩ := owns_row h
  refine ⟨a, c, rfl, hr, fun e => ?_⟩
  subst e
  rcases h.2 with ⟨e, -⟩ | ⟨g', cap, cur, e, -⟩
  · cases e; exact ⟨rfl, rfl⟩
  · cases e

set_option maxHeartbeats 1000000 in
theorem ev_clone (v : Value) (es : List Ev) (base : Nat) (w : World) (h : w.ownsRow base 38 3 v es.length (es.flatMap evC)) (hm : es.length ≤ 1073741824) :
    Calls Tryd.prog 22 #[v] w fun e w' => ∃ v', e = .returned v' ∧ w'.ownsRow w.heap.size 38 3 v' es.length (es.flatMap evC) ∧ Below w.heap.size w w' := by
  have HV := hid h
  obtain ⟨a, c, rfl, hr, h0⟩ := own_addr h
  have heq := Lib.run_eql_slice_nil (P := Tryd.prog) w 35 38 a es.length c 0 0 Tryd.underlying35
  clear h
  go_enter Tryd.func22, Tryd.ntmps22
  cases a with
  | none =>
    obtain ⟨hn, rfl⟩ := h0 rfl
    have : es = [] := List.eq_nil_of_length_eq_zero hn
    subst this
    clear hr h0 hn
    simp only [List.length_nil, Option.isNone_none] at heq
    go_wp2_with fail
    go_ret
    exact ⟨_, rfl, World.ownsRow_nil _ _ _ _, Below.refl _ _⟩
  | some ad =>
    have HR := hid hr
    clear hr
    have hB : Hid (Below w.heap.size w (w.alloc (.cells #[] 38))) := (Below.refl _ _).alloc (Nat.le_refl _) _
    go_wp2_with (at_builtin; refine wpList_app rfl (.tmp 5) (.tmp 6) 35 rfl w.heap.size 38 Tryd.underlying35 infoEv rfl (by decide) _ 0 [] rfl (World.ownsRow_made w #[] 0 (Nat.le_refl _) (Nat.zero_le _) rfl) (some ad) es.length c (es.flatMap evC) rfl (flat_len evC_len es) (HR.out.below hB.out) (evC_one es) (by unfold maxLen; omega) (by omega) (by simp) (fun e => by cases e) ?_; intro v' w1 ho1 hg1 _; refine Stop.mk ?_)
    have HO := hid ho1
    have HB : Hid (Below w.heap.size w w1) := below_app hB.out (World.ownsRow_made (size := 3) w #[] 0 (Nat.le_refl _) (Nat.zero_le _) rfl) hg1 (Nat.le_refl _) (by simp)
    clear ho1 hg1 heq h0
    refine Stop.go ?_
    go_wp2
    go_ret
    exact ⟨v', rfl, by simpa using HO.out, HB.out⟩

def evsA (A : List Da) (k : List UInt8 × Int) : List Ev := match seekA A k with | none => [] | some a => a.ev
def marksA (A : List Da) (k : List UInt8 × Int) : Nat := match seekA A k with | none => 0 | some a => a.marks.length
def ackedA (A : List Da) (k : List UInt8 × Int) : Int := match seekA A k with | none => 0 | some a => a.acked
def lastA (A : List Da) (k : List UInt8 × Int) : Int := match seekA A k with | none => 0 | some a => a.last

set_option maxHeartbeats 1000000 in
theorem hub_Queue (hb mh : Nat) (D : List Dk) (k : List UInt8 × Int) (w : World) (h : HubT w hb mh D) (hm : ∀ a ∈ absD D, a.ev.length ≤ 1073741824) :
    Calls Tryd.prog 12 #[.pointer (some ⟨hb, 0, none⟩), .agg #[tkey k.1, .int .i64 k.2]] w fun e w' => ∃ v', e = .returned v' ∧ w'.ownsRow w.heap.size 38 3 v' (evsA (absD D) k).length ((evsA (absD D) k).flatMap evC) ∧ Below w.heap.size w w' := by
  have HH := hid h
  have HOK := hid hm
  clear h hm
  have HK := hid (ObjAt.new w 28 #[tkey k.1, .int .i64 k.2])
  have HB := hid (below_new (w := w) (.cells #[tkey k.1, .int .i64 k.2] 28))
  have k0 := HK.out.cell 0 (tkey k.1) rfl
  have k1 := HK.out.cell 1 (.int .i64 k.2) rfl
  go_enter Tryd.func12, Tryd.ntmps12
  have HT := hid (HH.out.below HB.out)
  have c0 := HT.out.hub.cell 0 (.map (some mh)) rfl
  have HTd : Hid (HubT (w.alloc (.cells #[tkey k.1, .int .i64 k.2] 28)).drew hb mh D) := HT.out.below (Below.refl _ _).drew
  have l0 := run_look (P := Tryd.prog) Tryd.underlying53 KeyOk.skey HTd.out.map k (.pointer none) (by kernel_rfl) false
  rw [look_seekD] at l0
  have HBd := hid (HB.out.trans ((Below.refl w.heap.size _).drew))
  cases hs : seekD D k with
  | none =>
    rw [hs] at l0
    have l1 : (Instr.lookup 53 (.map (some mh)) (.agg #[tkey k.1, .int .i64 k.2]) false).run Tryd.prog (w.alloc (.cells #[tkey k.1, .int .i64 k.2] 28)).drew = .ok (.pointer none) (w.alloc (.cells #[tkey k.1, .int .i64 k.2] 28)).drew := l0
    have HE : Hid (evsA (absD D) k = []) := by show _ = _; unfold evsA; rw [seekD_abs, hs]; rfl
    clear l0 hs
    go_wp2_with fail
    go_region
    go_wp2_with fail
    go_ret
    exact ⟨_, rfl, by rw [HE.out]; exact World.ownsRow_nil _ _ _ _, HBd.out⟩
  | some x =>
    rw [hs] at l0
    have l1 : (Instr.lookup 53 (.map (some mh)) (.agg #[tkey k.1, .int .i64 k.2]) false).run Tryd.prog (w.alloc (.cells #[tkey k.1, .int .i64 k.2] 28)).drew = .ok (.pointer (some ⟨x.db, 0, none⟩)) (w.alloc (.cells #[tkey k.1, .int .i64 k.2] 28)).drew := l0
    have HE : Hid (evsA (absD D) k = x.a.ev) := by show _ = _; unfold evsA; rw [seekD_abs, hs]; rfl
    have HX := hid (HTd.out.ds x (seekD_some hs).1)
    have hlen := HOK.out x.a (List.mem_map.2 ⟨x, (seekD_some hs).1, rfl⟩)
    clear l0 hs
    go_wp2_with fail
    go_region
    clear l1 k0 k1 c0 HT HTd HK HB
    generalize (w.alloc (.cells #[tkey k.1, .int .i64 k.2] 28)).drew = w2 at *
    have x0 := HX.out.obj.cell 0 x.v rfl
    obtain ⟨va, vc, hve, -, -, -⟩ := owns_row HX.out.row
    rw [hve] at x0
    have HR : Hid (w2.ownsRow 0 38 3 (.slice va x.a.ev.length vc) x.a.ev.length (x.a.ev.flatMap evC)) := by rw [← hve]; exact HX.out.row
    clear hve
    go_wp2_with fail
    refine (ev_clone _ x.a.ev 0 _ HR.out hlen).mono ?_
    rintro e3 w3 ⟨v', rfl, ho, hb3⟩
    obtain ⟨va', vc', rfl, -, -, -⟩ := owns_row ho
    have HO : Hid (w3.ownsRow w.heap.size 38 3 (.slice va' x.a.ev.length vc') x.a.ev.length (x.a.ev.flatMap evC)) := owns_base ho HBd.out.size
    have HB3 := hid (below_next HBd.out hb3)
    clear ho hb3 x0
    go_wp2_with fail
    go_ret
    exact ⟨_, rfl, by rw [HE.out]; exact HO.out, HB3.out⟩

set_option maxHeartbeats 1000000 in
theorem hub_Watches (hb mh : Nat) (D : List Dk) (k : List UInt8 × Int) (w : World) (h : HubT w hb mh D) :
    Calls Tryd.prog 13 #[.pointer (some ⟨hb, 0, none⟩), .agg #[tkey k.1, .int .i64 k.2]] w fun e w' => e = .returned (.int .i64 (marksA (absD D) k : Nat)) ∧ Below w.heap.size w w' := by
  have HH := hid h
  clear h
  have HK := hid (ObjAt.new w 28 #[tkey k.1, .int .i64 k.2])
  have HB := hid (below_new (w := w) (.cells #[tkey k.1, .int .i64 k.2] 28))
  have k0 := HK.out.cell 0 (tkey k.1) rfl
  have k1 := HK.out.cell 1 (.int .i64 k.2) rfl
  go_enter Tryd.func13, Tryd.ntmps13
  have HT := hid (HH.out.below HB.out)
  have c0 := HT.out.hub.cell 0 (.map (some mh)) rfl
  have HTd : Hid (HubT (w.alloc (.cells #[tkey k.1, .int .i64 k.2] 28)).drew hb mh D) := HT.out.below (Below.refl _ _).drew
  have l0 := run_look (P := Tryd.prog) Tryd.underlying53 KeyOk.skey HTd.out.map k (.pointer none) (by kernel_rfl) false
  rw [look_seekD] at l0
  have HBd := hid (HB.out.trans ((Below.refl w.heap.size _).drew))
  cases hs : seekD D k with
  | none =>
    rw [hs] at l0
    have l1 : (Instr.lookup 53 (.map (some mh)) (.agg #[tkey k.1, .int .i64 k.2]) false).run Tryd.prog (w.alloc (.cells #[tkey k.1, .int .i64 k.2] 28)).drew = .ok (.pointer none) (w.alloc (.cells #[tkey k.1, .int .i64 k.2] 28)).drew := l0
    have HE : Hid (marksA (absD D) k = 0) := by show _ = _; unfold marksA; rw [seekD_abs, hs]; rfl
    clear l0 hs
    go_wp2_with fail
    go_region
    go_wp2_with fail
    go_ret
    exact ⟨by rw [HE.out]; rfl, HBd.out⟩
  | some x =>
    rw [hs] at l0
    have l1 : (Instr.lookup 53 (.map (some mh)) (.agg #[tkey k.1, .int .i64 k.2]) false).run Tryd.prog (w.alloc (.cells #[tkey k.1, .int .i64 k.2] 28)).drew = .ok (.pointer (some ⟨x.db, 0, none⟩)) (w.alloc (.cells #[tkey k.1, .int .i64 k.2] 28)).drew := l0
    have HE : Hid (marksA (absD D) k = x.a.marks.length) := by show _ = _; unfold marksA; rw [seekD_abs, hs]; rfl
    have HX := hid (HTd.out.ds x (seekD_some hs).1)
    clear l0 hs
    go_wp2_with fail
    go_region
    clear l1 k0 k1 c0 HT HTd HK HB
    generalize (w.alloc (.cells #[tkey k.1, .int .i64 k.2] 28)).drew = w2 at *
    have x3 := HX.out.obj.cell 3 (.map (some x.mb)) rfl
    have hln : ∀ t2, (Builtin.len_ #[63] t2 #[.map (some x.mb)]).run Tryd.prog w2 = .ok (.int .i64 x.a.marks.length) w2 := fun t2 => by
      have h := run_len (P := Tryd.prog) Tryd.underlying63 HX.out.marks t2
      rw [List.length_map] at h
      exact h
    go_wp2_with fail
    go_ret
    exact ⟨by rw [HE.out]; rfl, HBd.out⟩

set_option maxHeartbeats 1000000 in
theorem hub_Cursor (hb mh : Nat) (D : List Dk) (k : List UInt8 × Int) (w : World) (h : HubT w hb mh D) :
    Calls Tryd.prog 15 #[.pointer (some ⟨hb, 0, none⟩), .agg #[tkey k.1, .int .i64 k.2]] w fun e w' => e = .returned (.tuple #[.int .i64 (ackedA (absD D) k), .int .i64 (lastA (absD D) k)]) ∧ Below w.heap.size w w' := by
  have HH := hid h
  clear h
  have HK := hid (ObjAt.new w 28 #[tkey k.1, .int .i64 k.2])
  have HB := hid (below_new (w := w) (.cells #[tkey k.1, .int .i64 k.2] 28))
  have k0 := HK.out.cell 0 (tkey k.1) rfl
  have k1 := HK.out.cell 1 (.int .i64 k.2) rfl
  go_enter Tryd.func15, Tryd.ntmps15
  have HT := hid (HH.out.below HB.out)
  have c0 := HT.out.hub.cell 0 (.map (some mh)) rfl
  have HTd : Hid (HubT (w.alloc (.cells #[tkey k.1, .int .i64 k.2] 28)).drew hb mh D) := HT.out.below (Below.refl _ _).drew
  have l0 := run_look (P := Tryd.prog) Tryd.underlying53 KeyOk.skey HTd.out.map k (.pointer none) (by kernel_rfl) false
  rw [look_seekD] at l0
  have HBd := hid (HB.out.trans ((Below.refl w.heap.size _).drew))
  cases hs : seekD D k with
  | none =>
    rw [hs] at l0
    have l1 : (Instr.lookup 53 (.map (some mh)) (.agg #[tkey k.1, .int .i64 k.2]) false).run Tryd.prog (w.alloc (.cells #[tkey k.1, .int .i64 k.2] 28)).drew = .ok (.pointer none) (w.alloc (.cells #[tkey k.1, .int .i64 k.2] 28)).drew := l0
    have HE : Hid (ackedA (absD D) k = 0 ∧ lastA (absD D) k = 0) := by show _ ∧ _; unfold ackedA lastA; rw [seekD_abs, hs]; exact ⟨rfl, rfl⟩
    clear l0 hs
    go_wp2_with fail
    go_region
    go_wp2_with fail
    go_ret2
    exact ⟨by rw [HE.out.1, HE.out.2]; rfl, HBd.out⟩
  | some x =>
    rw [hs] at l0
    have l1 : (Instr.lookup 53 (.map (some mh)) (.agg #[tkey k.1, .int .i64 k.2]) false).run Tryd.prog (w.alloc (.cells #[tkey k.1, .int .i64 k.2] 28)).drew = .ok (.pointer (some ⟨x.db, 0, none⟩)) (w.alloc (.cells #[tkey k.1, .int .i64 k.2] 28)).drew := l0
    have HE : Hid (ackedA (absD D) k = x.a.acked ∧ lastA (absD D) k = x.a.last) := by show _ ∧ _; unfold ackedA lastA; rw [seekD_abs, hs]; exact ⟨rfl, rfl⟩
    have HX := hid (HTd.out.ds x (seekD_some hs).1)
    clear l0 hs
    go_wp2_with fail
    go_region
    clear l1 k0 k1 c0 HT HTd HK HB
    generalize (w.alloc (.cells #[tkey k.1, .int .i64 k.2] 28)).drew = w2 at *
    have x1 := HX.out.obj.cell 1 (.int .i64 x.a.acked) rfl
    have x2 := HX.out.obj.cell 2 (.int .i64 x.a.last) rfl
    go_wp2_with fail
    go_region
    have HB3 := hid (HBd.out.trans ((Below.refl w.heap.size _).drew))
    go_wp2_with fail
    go_ret2
    exact ⟨by rw [HE.out.1, HE.out.2]; rfl, HB3.out⟩
end Go.Proofs.YtjnbflhpboheiaaDoor
