/-
  A table of which one home has changed; Close, Expire, Get.
-/
import Derived.Test.YtdieomhddnhfoaaTb1
import Derived.Laws.ResultCell
import Derived.Laws.Rows
import Derived.Laws.NewBlocks
namespace Go.Proofs.Ytdieomhddnhfoaa
open Go.RowKit
set_option maxRecDepth 20000
set_option linter.unusedVariables false

theorem house_ne_sess : 62 ≠ 50 := by decide
/-- One home changed. -/
def setH (H : List Hs) (x : Hs) : List Hs := H.map fun y => if y.nm = x.nm then x else y
theorem setH_map {β : Type} (f : Hs → β) {H : List Hs} {x x' : Hs} (hn : (H.map Hs.nm).Nodup) (hx : x ∈ H) (en : x'.nm = x.nm) (ef : f x' = f x) : (setH H x').map f = H.map f := by
  unfold setH
  rw [List.map_map]
  refine List.map_congr_left fun y hy => ?_
  show f (if y.nm = x'.nm then _ else y) = f y
  split
  · rename_i e
    rw [nodup_inj hn hy hx (e.trans en), ef]
  · rfl
theorem HsAt.ne_kid {w : World} {h h' : Hs} (a : HsAt w h) (b : HsAt w h') (hn : h.nm ≠ h'.nm) {s s' : Sn} (hs : s ∈ h.live) (hs' : s' ∈ h'.live) : s.bs ≠ s'.bs := by
  intro e
  have h1 := a.kid s hs
  have h2 := b.kid s' hs'
  rw [e] at h1
  unfold ObjAt at h1 h2
  rw [h1] at h2
  have h3 : sCells h.nm s = sCells h'.nm s' := by injection h2 with h2; injection h2
  have h4 : (sCells h.nm s)[0]? = (sCells h'.nm s')[0]? := by rw [h3]
  simp [sCells] at h4
  exact hn h4
theorem HsAt.inj_kid {w : World} {h : Hs} (a : HsAt w h) {s s' : Sn} (hs : s ∈ h.live) (hs' : s' ∈ h.live) (e : s.bs = s'.bs) : s = s' := by
  have h1 := a.kid s hs
  have h2 := a.kid s' hs'
  rw [e] at h1
  unfold ObjAt at h1 h2
  rw [h1] at h2
  have h3 : sCells h.nm s = sCells h.nm s' := by injection h2 with h2; injection h2
  have h4 : (sCells h.nm s)[1]? = (sCells h.nm s')[1]? := by rw [h3]
  simp [sCells] at h4
  exact nodup_inj a.nums hs hs' h4
theorem TabT.apart {w : World} {bt mh : Nat} {H : List Hs} (h : TabT w bt mh H) {x y : Hs} (hx : x ∈ H) (hy : y ∈ H) (hn : y.nm ≠ x.nm) : ∀ k, HsHas y k → ¬ HsHas x k := by
  have ax := h.hs x hx
  have ay := h.hs y hy
  have hxy : y ≠ x := fun e => hn (by rw [e])
  rintro k (rfl | rfl | ⟨s, hs, rfl⟩) (e | e | ⟨t, ht, e⟩)
  · exact hxy (nodup_inj h.db hy hx e)
  · exact ay.obj.ne_map ax.live e
  · exact ay.obj.ne_obj (ax.kid t ht) house_ne_sess e
  · exact ax.obj.ne_map ay.live e.symm
  · exact hxy (nodup_inj h.dl hy hx e)
  · exact (ax.kid t ht).ne_map ay.live e.symm
  · exact ax.obj.ne_obj (ay.kid s hs) house_ne_sess e.symm
  · exact (ay.kid s hs).ne_map ax.live e
  · exact ay.ne_kid ax hn hs ht e
theorem TabT.putH {w w' : World} {bt mh : Nat} {H : List Hs} {x x' : Hs} (h : TabT w bt mh H) (hx : x ∈ H) (en : x'.nm = x.nm) (eb : x'.bh = x.bh) (el : x'.ml = x.ml) (ha : HsAt w' x') (hk : KeptS (HsHas x) w w') : TabT w' bt mh (setH H x') := by
  have ax := h.hs x hx
  refine ⟨h.tab.keptS hk ?_, ?_, fun y hy => ?_, ?_, ?_, fun y hy => ?_⟩
  · rintro (e | e | ⟨s, hs, e⟩)
    · exact h.tab.ne_obj ax.obj (by decide) e
    · exact h.tab.ne_map ax.live e
    · exact h.tab.ne_obj (ax.kid s hs) (by decide) e
  · rw [setH_map hEnt h.names hx en (by unfold hEnt; rw [en, eb])]
    refine h.map.keptS hk ?_
    rintro (e | e | ⟨s, hs, e⟩)
    · exact ax.obj.ne_map h.map e.symm
    · exact h.ne x hx e.symm
    · exact (ax.kid s hs).ne_map h.map e.symm
  · obtain ⟨z, hz, rfl⟩ := List.mem_map.1 hy
    by_cases e : z.nm = x'.nm
    · rw [if_pos e]; exact ha
    · rw [if_neg e]
      exact (h.hs z hz).keptS hk (h.apart hx hz (by rw [← en]; exact e))
  · rw [setH_map Hs.bh h.names hx en eb]; exact h.db
  · rw [setH_map Hs.ml h.names hx en el]; exact h.dl
  · obtain ⟨z, hz, rfl⟩ := List.mem_map.1 hy
    by_cases e : z.nm = x'.nm
    · rw [if_pos e, el]; exact h.ne x hx
    · rw [if_neg e]; exact h.ne z hz
theorem setH_has {bt mh n : Nat} {H : List Hs} {x x' : Hs} (hx : x ∈ H) (hh : ∀ k, HsHas x' k → HsHas x k ∨ n ≤ k) : ∀ k, TabHas bt mh (setH H x') k → TabHas bt mh H k ∨ n ≤ k := by
  rintro k (h | h | ⟨y, hy, h⟩)
  · exact .inl (.inl h)
  · exact .inl (.inr (.inl h))
  · obtain ⟨z, hz, rfl⟩ := List.mem_map.1 hy
    by_cases e : z.nm = x'.nm
    · rw [if_pos e] at h
      exact (hh k h).imp (fun q => .inr (.inr ⟨x, hx, q⟩)) id
    · rw [if_neg e] at h
      exact .inl (.inr (.inr ⟨z, hz, h⟩))
/-- What a call may have changed. -/
def MovedT (w w' : World) (bt mh : Nat) (H H' : List Hs) : Prop := (∀ k, TabHas bt mh H' k → TabHas bt mh H k ∨ w.heap.size ≤ k) ∧ KeptS (TabHas bt mh H) w w'
theorem MovedT.refl (w : World) (bt mh : Nat) (H : List Hs) : MovedT w w bt mh H H := ⟨fun k h => .inl h, KeptS.refl _ _⟩
theorem MovedT.below {w w' : World} {bt mh : Nat} {H : List Hs} (h : Below w.heap.size w w') : MovedT w w' bt mh H H := ⟨fun k h => .inl h, KeptS.of_below h⟩
theorem MovedT.trans {a b c : World} {bt mh : Nat} {F G H : List Hs} (h : MovedT a b bt mh F G) (k : MovedT b c bt mh G H) : MovedT a c bt mh F H := by
  refine ⟨fun i hi => ?_, h.2.trans k.2 (fun i hi e => ?_)⟩
  · rcases k.1 i hi with q | q
    · exact h.1 i q
    · exact .inr (Nat.le_trans h.2.size q)
  · rcases h.1 i e with q | q
    · exact q
    · omega
/-- A session less, or as it was, up to its beats. -/
def pr (s : Sn) : Int × Int × Value := (s.n, s.nonce, s.rv)
def SubH (h h' : Hs) : Prop := h'.nm = h.nm ∧ h'.last = h.last ∧ (h'.live.map pr).Sublist (h.live.map pr)
def Sub : List Hs → List Hs → Prop
  | [], [] => True
  | h :: H, h' :: H' => SubH h h' ∧ Sub H H'
  | _, _ => False
theorem SubH.refl (h : Hs) : SubH h h := ⟨rfl, rfl, List.Sublist.refl _⟩
theorem Sub.refl : ∀ H : List Hs, Sub H H
  | [] => trivial
  | h :: H => ⟨SubH.refl h, Sub.refl H⟩
theorem Sub.trans : ∀ {F G H : List Hs}, Sub F G → Sub G H → Sub F H
  | [], [], [], _, _ => trivial
  | _ :: _, _ :: _, _ :: _, ⟨⟨a, b, c⟩, h⟩, ⟨⟨a', b', c'⟩, k⟩ => ⟨⟨a'.trans a, b'.trans b, c'.trans c⟩, h.trans k⟩
  | [], [], _ :: _, _, h => h.elim
  | [], _ :: _, _, h, _ => h.elim
  | _ :: _, [], _, h, _ => h.elim
  | _ :: _, _ :: _, [], _, h => h.elim
theorem Sub.putH {x x' : Hs} (hs : SubH x x') : ∀ {H : List Hs}, (∀ y ∈ H, y.nm = x.nm → y = x) → Sub H (setH H x')
  | [], _ => trivial
  | y :: H, hu => by
    refine ⟨?_, Sub.putH hs (fun z hz => hu z (List.mem_cons_of_mem _ hz))⟩
    show SubH y (if y.nm = x'.nm then x' else y)
    split
    · rename_i e
      rw [hu y (List.mem_cons_self ..) (e.trans hs.1)]; exact hs
    · exact SubH.refl y
/-- The sessions without one. -/
def delS (l : List Sn) (n : Int) : List Sn := match l.findIdx? (fun s => s.n == n) with | some j => l.eraseIdx j | none => l
theorem findIdx_sEnt (l : List Sn) (n : Int) : (l.map sEnt).findIdx? (fun p => p.1 == n) = l.findIdx? (fun s => s.n == n) := by
  rw [List.findIdx?_map]; rfl
theorem del_sEnt (l : List Sn) (n : Int) : del (l.map sEnt) n = (delS l n).map sEnt := by
  have e2 : (l.map sEnt).findIdx? (fun p => @BEq.beq Int instBEqOfDecidableEq p.1 n) = l.findIdx? (fun s => s.n == n) := findIdx_sEnt l n
  unfold del delS
  rw [e2]
  cases l.findIdx? (fun s => s.n == n) with
  | none => rfl
  | some j => exact (map_eraseIdx sEnt l j).symm
theorem delS_sub (l : List Sn) (n : Int) : (delS l n).Sublist l := by
  unfold delS
  cases l.findIdx? (fun s => s.n == n) with
  | none => exact List.Sublist.refl _
  | some j => exact List.eraseIdx_sublist _ _
theorem TabT.del {w w' : World} {bt mh : Nat} {H : List Hs} {x : Hs} {n : Int} (h : TabT w bt mh H) (hx : x ∈ H) (hm : MapAt w' x.ml ikey (del (x.live.map sEnt) n)) (hk : Kept w.heap.size x.ml w w') :
    TabT w' bt mh (setH H { x with live := delS x.live n }) ∧ MovedT w w' bt mh H (setH H { x with live := delS x.live n }) ∧ Sub H (setH H { x with live := delS x.live n }) := by
  have ax := h.hs x hx
  have hK : KeptS (HsHas x) w w' := KeptS.of_kept hk (.inr (.inl rfl))
  have hS := delS_sub x.live n
  refine ⟨h.putH hx rfl rfl rfl ⟨ax.obj.kept hk (ax.obj.ne_map ax.live), by rw [del_sEnt] at hm; exact hm, fun s hs => (ax.kid s (hS.subset hs)).kept hk ((ax.kid s (hS.subset hs)).ne_map ax.live), fun s hs => ax.rng s (hS.subset hs), ax.lst, ax.len⟩ hK, ⟨setH_has hx fun k => ?_, hK.imp fun k e => .inr (.inr ⟨x, hx, e⟩)⟩, Sub.putH (x := x) (x' := { x with live := delS x.live n }) ⟨rfl, rfl, hS.map pr⟩ fun y hy e => nodup_inj h.names hy hx e⟩
  rintro (e | e | ⟨s, hs, e⟩)
  · exact .inl (.inl e)
  · exact .inl (.inr (.inl e))
  · exact .inl (.inr (.inr ⟨s, hS.subset hs, e⟩))
/-- What a call that only takes leaves. -/
def LessP (w : World) (bt mh : Nat) (H : List Hs) (w' : World) : Prop := ∃ H', TabT w' bt mh H' ∧ MovedT w w' bt mh H H' ∧ Sub H H'
theorem LessP.below {w w' : World} {bt mh : Nat} {H : List Hs} (h : TabT w bt mh H) (hb : Below w.heap.size w w') : LessP w bt mh H w' := ⟨H, h.below hb, MovedT.below hb, Sub.refl H⟩

theorem FindP.split {H : List Hs} {nm : List UInt8} {n : Int} {e : Ending} (h : FindP H nm n e) : (∃ h s, seekH H nm = some h ∧ seekS h.live n = some s ∧ e = .returned (.tuple #[.pointer (some ⟨s.bs, 0, none⟩), .int .i64 0])) ∨
  ∃ er : Int, (er == 0) = false ∧ (∀ h ∈ H, h.nm = nm → ∀ s ∈ h.live, s.n ≠ n) ∧ e = .returned (.tuple #[.pointer none, .int .i64 er]) := by
  rcases h with h | ⟨h, rfl | rfl⟩
  · exact .inl h
  · exact .inr ⟨150, rfl, h, rfl⟩
  · exact .inr ⟨151, rfl, h, rfl⟩

set_option maxHeartbeats 2000000 in
theorem tab_close (bt mh : Nat) (H : List Hs) (nm : List UInt8) (n : Int) (w : World) (h : TabT w bt mh H) :
    Calls Try.prog 15 #[.pointer (some ⟨bt, 0, none⟩), .agg #[tkey nm, .int .i64 n]] w fun e w' => (∃ er, e = .returned (.int .i64 er)) ∧ LessP w bt mh H w' := by
  have HH := hid h
  clear h
  go_enter Try.func15, Try.ntmps15
  go_wp2_with fail
  have HK := hid (ObjAt.new w 30 #[tkey nm, .int .i64 n])
  have HB := hid (below_new (w := w) (.cells #[tkey nm, .int .i64 n] 30))
  have HT := hid (HH.out.below HB.out)
  refine (tab_find bt mh H nm n _ HT.out).mono ?_
  rintro e w1 ⟨hf, hb⟩
  have HB1 := hid (below_step HB.out HB.out.size hb)
  have HT1 := hid (HT.out.below hb)
  have HK1 := hid (HK.out.below hb)
  clear hb HT HB HK
  rcases hf.split with ⟨x, s, hx, hs, rfl⟩ | ⟨er, e1, -, rfl⟩
  · have HX := hid (seekH_some hx)
    have l0 := run_look (w := w1.drew) Try.underlying54 keyT ((HT1.out.below (Below.refl w1.heap.size w1).drew).map) nm (.pointer none) (by kernel_rfl) false
    rw [look_seekH, hx] at l0
    have l1 : (Instr.lookup 54 (.map (some mh)) (tkey nm) false).run Try.prog w1.drew = .ok (.pointer (some ⟨x.bh, 0, none⟩)) w1.drew := l0
    clear l0 hf hx hs
    generalize w.heap.size = kb at HK1 ⊢
    have HA := hid (HT1.out.hs x HX.out.1)
    have c0 := ObjAt.cell HT1.out.tab 0 (.map (some mh)) rfl
    have k0 := ObjAt.cell HK1.out 0 (tkey nm) rfl
    have k1 := ObjAt.cell HK1.out 1 (.int .i64 n) rfl
    have h1 := ObjAt.cell HA.out.obj 1 (.map (some x.ml)) rfl
    obtain ⟨W5, hdel, HM5, HK5, hz5, hd5⟩ := run_del (P := Try.prog) Try.underlying60 keyI (w := w1.drew) (HA.out.live.below (Below.refl w1.heap.size w1).drew) n
    have HMM := hid HM5
    have HKK := hid HK5
    clear HM5 HK5 hz5 hd5
    go_wp2_with fail
    go_region
    go_wp2_with fail
    go_ret
    obtain ⟨r1, r2, r3⟩ := (HT1.out.below (Below.refl w1.heap.size w1).drew).del (n := n) HX.out.1 HMM.out HKK.out
    exact ⟨⟨_, rfl⟩, _, r1, ((MovedT.below HB1.out).trans (MovedT.below (Below.refl w1.heap.size w1).drew)).trans r2, r3⟩
  · go_wp2_with fail
    go_ret
    exact ⟨⟨_, rfl⟩, LessP.below HH.out HB1.out⟩

set_option maxHeartbeats 2000000 in
theorem tab_expire (bt mh : Nat) (H : List Hs) (nm : List UInt8) (n b : Int) (w : World) (h : TabT w bt mh H) :
    Calls Try.prog 13 #[.pointer (some ⟨bt, 0, none⟩), .agg #[tkey nm, .int .i64 n], .int .i64 b] w fun e w' => (∃ er, e = .returned (.bool er)) ∧ LessP w bt mh H w' := by
  have HH := hid h
  clear h
  go_enter Try.func13, Try.ntmps13
  go_wp2_with fail
  have HK := hid (ObjAt.new w 30 #[tkey nm, .int .i64 n])
  have HB := hid (below_new (w := w) (.cells #[tkey nm, .int .i64 n] 30))
  have HT := hid (HH.out.below HB.out)
  refine (tab_find bt mh H nm n _ HT.out).mono ?_
  rintro e w1 ⟨hf, hb⟩
  have HB1 := hid (below_step HB.out HB.out.size hb)
  have HT1 := hid (HT.out.below hb)
  have HK1 := hid (HK.out.below hb)
  clear hb HT HB HK
  rcases hf with ⟨x, s, hx, hs, rfl⟩ | ⟨-, rfl | rfl⟩
  · have HX := hid (seekH_some hx)
    have HSS := hid (seekS_some hs)
    have l0 := run_look (w := w1.drew) Try.underlying54 keyT ((HT1.out.below (Below.refl w1.heap.size w1).drew).map) nm (.pointer none) (by kernel_rfl) false
    rw [look_seekH, hx] at l0
    have l1 : (Instr.lookup 54 (.map (some mh)) (tkey nm) false).run Try.prog w1.drew = .ok (.pointer (some ⟨x.bh, 0, none⟩)) w1.drew := l0
    clear l0 hx hs
    generalize w.heap.size = kb at HK1 ⊢
    have HA := hid (HT1.out.hs x HX.out.1)
    have s4 := ObjAt.cell (HA.out.kid s HSS.out.1) 4 (.int .i64 s.beats) rfl
    by_cases hbe : s.beats = b
    · have e1 : (s.beats == b) = true := beq_iff_eq.2 hbe
      have c0 := ObjAt.cell HT1.out.tab 0 (.map (some mh)) rfl
      have k0 := ObjAt.cell HK1.out 0 (tkey nm) rfl
      have k1 := ObjAt.cell HK1.out 1 (.int .i64 n) rfl
      have h1 := ObjAt.cell HA.out.obj 1 (.map (some x.ml)) rfl
      obtain ⟨W5, hdel, HM5, HK5, hz5, hd5⟩ := run_del (P := Try.prog) Try.underlying60 keyI (w := w1.drew) (HA.out.live.below (Below.refl w1.heap.size w1).drew) n
      have HMM := hid HM5
      have HKK := hid HK5
      clear HM5 HK5 hz5 hd5 hbe
      go_wp2_with fail
      go_region
      go_wp2_with fail
      go_ret
      obtain ⟨r1, r2, r3⟩ := (HT1.out.below (Below.refl w1.heap.size w1).drew).del (n := n) HX.out.1 HMM.out HKK.out
      exact ⟨⟨_, rfl⟩, _, r1, ((MovedT.below HB1.out).trans (MovedT.below (Below.refl w1.heap.size w1).drew)).trans r2, r3⟩
    · have e1 : (s.beats == b) = false := beq_eq_false_iff_ne.2 hbe
      clear hbe
      go_wp2_with fail
      go_ret
      exact ⟨⟨_, rfl⟩, LessP.below HH.out HB1.out⟩
  · go_wp2_with fail
    go_ret
    exact ⟨⟨_, rfl⟩, LessP.below HH.out HB1.out⟩
  · go_wp2_with fail
    go_ret
    exact ⟨⟨_, rfl⟩, LessP.below HH.out HB1.out⟩

theorem results_cell2 {P : Program} {fn : Func} {p u : Tmp} {ty : TypeId} (h : fn.results = #[.cell p ty, .tmp u]) (tmps : Array Value) (w : World) (g : Nat) (t : TypeId) (cs : Array Value) (fs : Array Field)
    (hp : tmps.getD p undef = .pointer (some ⟨g, 0, none⟩)) (hg : ObjAt w g t cs) (hu : P.underlying ty = some (.struct fs)) (hi : (P.info? ty).map (·.size) = some cs.size) :
    (results fn tmps).run P w = .ok (.tuple #[.agg cs, tmps.getD u undef]) w := by
  rw [results_cell_tmp h, hp]
  simp [asAddr, run_loadVar_row w g t ty cs (0, 0) (.struct fs) hg hu rfl hi, Result.andThen]
theorem below_put {a b : World} (h : Below a.heap.size a b) (p : Addr) (v : Value) (hp : a.heap.size ≤ p.block) : Below a.heap.size a (b.setCell p v) :=
  below_kept h (Kept.set b p v) hp h.size
/-- What Get tells. -/
def GetP (H : List Hs) (nm : List UInt8) (n : Int) (e : Ending) : Prop :=
  (∃ (h : Hs) (s : Sn) (va : Option Addr) (vc : Nat), seekH H nm = some h ∧ seekS h.live n = some s ∧ e = .returned (.tuple #[.agg (sCells nm { s with rv := .slice va 0 vc }), .int .i64 0])) ∨
  ((∀ h ∈ H, h.nm = nm → ∀ s ∈ h.live, s.n ≠ n) ∧ ∃ er v, (er == 0) = false ∧ e = .returned (.tuple #[v, .int .i64 er]))

set_option maxHeartbeats 2000000 in
theorem tab_get (bt mh : Nat) (H : List Hs) (nm : List UInt8) (n : Int) (w : World) (h : TabT w bt mh H) (hr : ∀ h ∈ H, ∀ s ∈ h.live, s.rv = .slice none 0 0) :
    Calls Try.prog 17 #[.pointer (some ⟨bt, 0, none⟩), .agg #[tkey nm, .int .i64 n]] w fun e w' => GetP H nm n e ∧ Below w.heap.size w w' := by
  have HH := hid h
  clear h
  go_enter Try.func17, Try.ntmps17
  go_wp2_with fail
  have HB := hid (((Below.refl w.heap.size w).alloc (Nat.le_refl _) (.cells #[tkey nm, .int .i64 n] 30)).alloc (by simp) (.cells #[.string ⟨#[]⟩, .int .i64 0, .int .i64 0, .int .i64 0, .int .i64 0, .int .i64 0, .slice none 0 0] 50))
  have HT := hid (HH.out.below HB.out)
  have HZ := hid (ObjAt.new (w.alloc (.cells #[tkey nm, .int .i64 n] 30)) 50 #[.string ⟨#[]⟩, .int .i64 0, .int .i64 0, .int .i64 0, .int .i64 0, .int .i64 0, .slice none 0 0])
  rw [show (w.alloc (.cells #[tkey nm, .int .i64 n] 30)).heap.size = w.heap.size + 1 from by simp] at HZ
  refine (tab_find bt mh H nm n _ HT.out).mono ?_
  rintro e w1 ⟨hf, hb⟩
  have HB1 := hid (below_step HB.out HB.out.size hb)
  have HT1 := hid (HT.out.below hb)
  have HZ1 := hid (HZ.out.below hb)
  clear hb HB HT HZ
  rcases hf with ⟨x, s, hx, hs, rfl⟩ | ⟨hno, rfl | rfl⟩
  · have HX := hid (seekH_some hx)
    have HSS := hid (seekS_some hs)
    have HX0 := hid hx
    have HS0 := hid hs
    have HRV := hid (hr x HX.out.1 s HSS.out.1)
    have HA := hid (HT1.out.hs x HX.out.1)
    have ho := HA.out.kid s HSS.out.1
    unfold sCells at ho
    rw [HX.out.2, HRV.out] at ho
    have s0 := ObjAt.cell ho 0 (tkey nm) rfl
    have s1 := ObjAt.cell ho 1 (.int .i64 s.n) rfl
    have s2 := ObjAt.cell ho 2 (.int .i64 s.nonce) rfl
    have s3 := ObjAt.cell ho 3 (.int .i64 s.lease) rfl
    have s4 := ObjAt.cell ho 4 (.int .i64 s.beats) rfl
    have s5 := ObjAt.cell ho 5 (.int .i64 s.req) rfl
    have s6 := ObjAt.cell ho 6 (.slice none 0 0) rfl
    have HO := hid ho
    have HN := hid (below_new (w := w1) (.cells #[.string ⟨nm.toArray⟩, .int .i64 s.n, .int .i64 s.nonce, .int .i64 s.lease, .int .i64 s.beats, .int .i64 s.req, .slice none 0 0] 50))
    have t6 := ObjAt.cell (HO.out.below HN.out) 6 (.slice none 0 0) rfl
    have HE := hid (⟨none, 0, rfl, RowAt.nil _ _, fun _ => rfl, Nat.le_refl _, Nat.zero_le _⟩ : IsBytes (w1.alloc (.cells #[.string ⟨nm.toArray⟩, .int .i64 s.n, .int .i64 s.nonce, .int .i64 s.lease, .int .i64 s.beats, .int .i64 s.req, .slice none 0 0] 50)) (.slice none 0 0) [])
    have HP := hid (ObjAt.new w1 50 #[.string ⟨nm.toArray⟩, .int .i64 s.n, .int .i64 s.nonce, .int .i64 s.lease, .int .i64 s.beats, .int .i64 s.req, .slice none 0 0])
    clear ho hx hs hr
    go_wp2_with fail
    refine (bytes_clone (.slice none 0 0) [] _ HE.out (Nat.zero_le _)).mono ?_
    rintro e w2 ⟨v, rfl, ho, hb⟩
    have HB2 := hid (below_step (below_step HB1.out HB1.out.size HN.out) (below_step HB1.out HB1.out.size HN.out).size hb)
    have HP2 := hid (HP.out.below hb)
    obtain ⟨va, vc, rfl⟩ : ∃ va vc, v = .slice va 0 vc := by
      obtain ⟨va, vc, e, -⟩ := owns_bytes ho
      exact ⟨va, vc, e⟩
    have HZ2 := hid (HZ1.out.below (below_step HN.out HN.out.size hb))
    have hzl := HZ1.out.lt
    clear ho hb s0 s1 s2 s3 s4 s5 s6 t6 HE HP HN HZ1
    have HRZ : Hid (w.heap.size ≤ w2.heap.size) := HB2.out.size
    have HGE : Hid (w.heap.size ≤ w1.heap.size ∧ w.heap.size ≤ w.heap.size + 1) := ⟨HB1.out.size, by omega⟩
    generalize w1.heap.size = ob at HP2 hzl HGE ⊢
    generalize w.heap.size + 1 = zb at HZ2 hzl HGE ⊢
    have hne : zb ≠ ob := by omega
    have hne' : ob ≠ zb := by omega
    clear hzl
    have z0 := ObjAt.cell HZ2.out 0 (.string ⟨#[]⟩) rfl
    have z1 := ObjAt.cell HZ2.out 1 (.int .i64 0) rfl
    have z2 := ObjAt.cell HZ2.out 2 (.int .i64 0) rfl
    have z3 := ObjAt.cell HZ2.out 3 (.int .i64 0) rfl
    have z4 := ObjAt.cell HZ2.out 4 (.int .i64 0) rfl
    have z5 := ObjAt.cell HZ2.out 5 (.int .i64 0) rfl
    have z6 := ObjAt.cell HZ2.out 6 (.slice none 0 0) rfl
    have g0 := ObjAt.frozen HZ2.out 0
    have g1 := ObjAt.frozen HZ2.out 1
    have g2 := ObjAt.frozen HZ2.out 2
    have g3 := ObjAt.frozen HZ2.out 3
    have g4 := ObjAt.frozen HZ2.out 4
    have g5 := ObjAt.frozen HZ2.out 5
    have g6 := ObjAt.frozen HZ2.out 6
    have q0 := ObjAt.cell HP2.out 0 (tkey nm) rfl
    have q1 := ObjAt.cell HP2.out 1 (.int .i64 s.n) rfl
    have q2 := ObjAt.cell HP2.out 2 (.int .i64 s.nonce) rfl
    have q3 := ObjAt.cell HP2.out 3 (.int .i64 s.lease) rfl
    have q4 := ObjAt.cell HP2.out 4 (.int .i64 s.beats) rfl
    have q5 := ObjAt.cell HP2.out 5 (.int .i64 s.req) rfl
    have q6 := ObjAt.cell HP2.out 6 (.slice none 0 0) rfl
    have f6 := ObjAt.frozen HP2.out 6
    have HZ3 := hid (HZ2.out.kept (Kept.set w2 ⟨ob, 6, none⟩ (.slice va 0 vc)) hne)
    have HZ4 := hid ((((((((HZ3.out.set 0 (.string ⟨nm.toArray⟩)).set 1 (.int .i64 s.n)).set 2 (.int .i64 s.nonce)).set 3 (.int .i64 s.lease)).set 4 (.int .i64 s.beats)).set 5 (.int .i64 s.req)).set 6 (.slice va 0 vc)))
    go_wp2_with fail
    refine bodyPost_ret_by (results_cell2 rfl _ _ zb _ _ _ rfl HZ4.out Try.underlying50 (by kernel_rfl)) rfl ?_
    refine ⟨.inl ⟨x, s, va, vc, HX0.out, HS0.out, rfl⟩, ?_⟩
    exact below_put (below_put (below_put (below_put (below_put (below_put (below_put (below_put HB2.out _ _ HGE.out.1) _ _ HGE.out.2) _ _ HGE.out.2) _ _ HGE.out.2) _ _ HGE.out.2) _ _ HGE.out.2) _ _ HGE.out.2) _ _ HGE.out.2
  · have HNO := hid hno
    have HGE : Hid (w.heap.size ≤ w.heap.size + 1) := by show _ ≤ _; omega
    generalize w.heap.size + 1 = zb at HZ1 HGE ⊢
    have z0 := ObjAt.cell HZ1.out 0 (.string ⟨#[]⟩) rfl
    have z1 := ObjAt.cell HZ1.out 1 (.int .i64 0) rfl
    have z2 := ObjAt.cell HZ1.out 2 (.int .i64 0) rfl
    have z3 := ObjAt.cell HZ1.out 3 (.int .i64 0) rfl
    have z4 := ObjAt.cell HZ1.out 4 (.int .i64 0) rfl
    have z5 := ObjAt.cell HZ1.out 5 (.int .i64 0) rfl
    have z6 := ObjAt.cell HZ1.out 6 (.slice none 0 0) rfl
    have g0 := ObjAt.frozen HZ1.out 0
    have g1 := ObjAt.frozen HZ1.out 1
    have g2 := ObjAt.frozen HZ1.out 2
    have g3 := ObjAt.frozen HZ1.out 3
    have g4 := ObjAt.frozen HZ1.out 4
    have g5 := ObjAt.frozen HZ1.out 5
    have g6 := ObjAt.frozen HZ1.out 6
    have HZ4 := hid ((((((((HZ1.out.set 0 (.string ⟨#[]⟩)).set 1 (.int .i64 0)).set 2 (.int .i64 0)).set 3 (.int .i64 0)).set 4 (.int .i64 0)).set 5 (.int .i64 0)).set 6 (.slice none 0 0)))
    clear hno hr
    go_wp2_with fail
    refine bodyPost_ret_by (results_cell2 rfl _ _ zb _ _ _ rfl HZ4.out Try.underlying50 (by kernel_rfl)) rfl ?_
    refine ⟨.inr ⟨HNO.out, 150, _, rfl, rfl⟩, ?_⟩
    exact below_put (below_put (below_put (below_put (below_put (below_put (below_put HB1.out _ _ HGE.out) _ _ HGE.out) _ _ HGE.out) _ _ HGE.out) _ _ HGE.out) _ _ HGE.out) _ _ HGE.out
  · have HNO := hid hno
    have HGE : Hid (w.heap.size ≤ w.heap.size + 1) := by show _ ≤ _; omega
    generalize w.heap.size + 1 = zb at HZ1 HGE ⊢
    have z0 := ObjAt.cell HZ1.out 0 (.string ⟨#[]⟩) rfl
    have z1 := ObjAt.cell HZ1.out 1 (.int .i64 0) rfl
    have z2 := ObjAt.cell HZ1.out 2 (.int .i64 0) rfl
    have z3 := ObjAt.cell HZ1.out 3 (.int .i64 0) rfl
    have z4 := ObjAt.cell HZ1.out 4 (.int .i64 0) rfl
    have z5 := ObjAt.cell HZ1.out 5 (.int .i64 0) rfl
    have z6 := ObjAt.cell HZ1.out 6 (.slice none 0 0) rfl
    have g0 := ObjAt.frozen HZ1.out 0
    have g1 := ObjAt.frozen HZ1.out 1
    have g2 := ObjAt.frozen HZ1.out 2
    have g3 := ObjAt.frozen HZ1.out 3
    have g4 := ObjAt.frozen HZ1.out 4
    have g5 := ObjAt.frozen HZ1.out 5
    have g6 := ObjAt.frozen HZ1.out 6
    have HZ4 := hid ((((((((HZ1.out.set 0 (.string ⟨#[]⟩)).set 1 (.int .i64 0)).set 2 (.int .i64 0)).set 3 (.int .i64 0)).set 4 (.int .i64 0)).set 5 (.int .i64 0)).set 6 (.slice none 0 0)))
    clear hno hr
    go_wp2_with fail
    refine bodyPost_ret_by (results_cell2 rfl _ _ zb _ _ _ rfl HZ4.out Try.underlying50 (by kernel_rfl)) rfl ?_
    refine ⟨.inr ⟨HNO.out, 151, _, rfl, rfl⟩, ?_⟩
    exact below_put (below_put (below_put (below_put (below_put (below_put (below_put HB1.out _ _ HGE.out) _ _ HGE.out) _ _ HGE.out) _ _ HGE.out) _ _ HGE.out) _ _ HGE.out) _ _ HGE.out
end Go.Proofs.Ytdieomhddnhfoaa
