/-
  Open.
-/
import Derived.Test.YtdieomhddnhfoaaTb3
import Derived.Deep.CutBlock
namespace Go.Proofs.Ytdieomhddnhfoaa
open Go.RowKit Go.ChangeMaps
set_option maxRecDepth 20000
set_option linter.unusedVariables false

theorem upd_same {κ : Type} [DecidableEq κ] {l : List (κ × Value)} {k : κ} {v : Value} (h : look l k = some v) : upd l k v = l := by
  rw [look_idx] at h
  unfold upd
  cases hf : l.findIdx? (fun p => p.1 == k) with
  | none => rw [hf] at h; cases h
  | some j =>
    rw [hf] at h
    obtain ⟨hj, e⟩ := find_key hf
    simp only [Option.bind_some, List.getElem?_eq_getElem hj, Option.map_some, Option.some.injEq] at h
    show l.set j (k, v) = l
    rw [← e, ← h]
    exact List.set_getElem_self hj
theorem upd_new {κ : Type} [DecidableEq κ] {l : List (κ × Value)} {k : κ} {v : Value} (h : k ∉ l.map (·.1)) : upd l k v = l ++ [(k, v)] := by
  unfold upd
  cases hf : l.findIdx? (fun p => p.1 == k) with
  | none => rfl
  | some j =>
    obtain ⟨hj, e⟩ := find_key hf
    exact absurd (List.mem_map.2 ⟨l[j], List.getElem_mem hj, e⟩) h

/-- What lies where Open has its home. -/
structure HomeAt (w : World) (B : Nat) (H : List Hs) (nm : List UInt8) (x : Hs) : Prop where
  hs : HsAt w x
  name : x.nm = nm
  is : x ∈ H ∨ (∀ h ∈ H, h.nm ≠ nm) ∧ x.last = 0 ∧ x.live = [] ∧ B ≤ x.bh ∧ B ≤ x.ml
theorem HomeAt.below {w w' : World} {B : Nat} {H : List Hs} {nm : List UInt8} {x : Hs} (h : HomeAt w B H nm x) (hb : Below w.heap.size w w') : HomeAt w' B H nm x :=
  ⟨h.hs.keptS (S := fun _ => False) (KeptS.of_below hb) (fun _ _ h => h), h.name, h.is⟩
/-- A home with one session more. -/
def more (x : Hs) (s : Sn) : Hs := { x with last := x.last + 1, live := x.live ++ [s] }
def Opened (H : List Hs) (nm : List UInt8) (nonce : Int) (x : Hs) (s : Sn) (H' : List Hs) : Prop :=
  x.nm = nm ∧ s.n = x.last + 1 ∧ s.nonce = nonce ∧ s.rv = .slice none 0 0 ∧ x.live.length < 64 ∧ (∀ t ∈ x.live, t.nonce ≠ nonce) ∧ (x ∈ H ∧ H' = setH H (more x s) ∨ (∀ h ∈ H, h.nm ≠ nm) ∧ x.last = 0 ∧ x.live = [] ∧ H' = H ++ [more x s])
/-- What Open tells and leaves. -/
def OpenP (w : World) (bt mh : Nat) (H : List Hs) (nm : List UInt8) (nonce : Int) (e : Ending) (w' : World) : Prop :=
  (∃ (m : Int) (f : Bool) (er : Int), (er == 0) = false ∧ e = .returned (.tuple #[.int .i64 m, .bool f, .int .i64 er]) ∧ Below w.heap.size w w') ∨
  (∃ x ∈ H, ∃ s ∈ x.live, x.nm = nm ∧ e = .returned (.tuple #[.int .i64 s.n, .bool false, .int .i64 0]) ∧ Below w.heap.size w w') ∨
  (∃ x s H', e = .returned (.tuple #[.int .i64 (x.last + 1), .bool true, .int .i64 0]) ∧ TabT w' bt mh H' ∧ MovedT w w' bt mh H H' ∧ Opened H nm nonce x s H')
theorem HsAt.count {w : World} {x : Hs} (a : HsAt w x) (hn : x.last < 4611686018427387903) : HsAt (w.setCell ⟨x.bh, 0, none⟩ (.int .i64 (x.last + 1))) { x with last := x.last + 1 } := by
  have hk : Kept w.heap.size x.bh w (w.setCell ⟨x.bh, 0, none⟩ (.int .i64 (x.last + 1))) := Kept.set w ⟨x.bh, 0, none⟩ (.int .i64 (x.last + 1))
  exact ⟨a.obj.set 0 (.int .i64 (x.last + 1)), a.live.kept hk (a.obj.ne_map a.live).symm, fun s hs => (a.kid s hs).kept hk (a.obj.ne_obj (a.kid s hs) house_ne_sess).symm, fun s hs => by have := a.rng s hs; show _ ∧ s.n ≤ x.last + 1; omega, by have := a.lst; show 0 ≤ x.last + 1 ∧ x.last + 1 ≤ _; omega, a.len⟩
theorem HsAt.put {w w' : World} {x : Hs} {s : Sn} (a : HsAt w { x with last := x.last + 1 }) (hk : Kept w.heap.size x.ml w w') (hm : MapAt w' x.ml ikey (upd (x.live.map sEnt) (x.last + 1) (.pointer (some ⟨s.bs, 0, none⟩)))) (en : s.n = x.last + 1)
    (ho : ObjAt w s.bs 50 (sCells x.nm s)) (hr : ∀ t ∈ x.live, t.n ≤ x.last) (h0 : 0 ≤ x.last) : HsAt w' (more x s) := by
  have al : MapAt w x.ml ikey (x.live.map sEnt) := a.live
  rw [upd_new (by
    intro h
    rw [List.map_map] at h
    obtain ⟨t, ht, e⟩ := List.mem_map.1 h
    have e' : t.n = x.last + 1 := e
    have := hr t ht; omega)] at hm
  refine ⟨a.obj.kept hk (a.obj.ne_map al), ?_, fun t ht => ?_, fun t ht => ?_, a.lst, a.len⟩
  · show MapAt w' x.ml ikey ((x.live ++ [s]).map sEnt)
    rw [List.map_append, List.map_cons, List.map_nil, sEnt, en]
    exact hm
  · rcases List.mem_append.1 ht with ht | ht
    · exact (a.kid t ht).kept hk ((a.kid t ht).ne_map al)
    · rw [List.mem_singleton.1 ht]
      exact ho.kept hk (ho.ne_map al)
  · rcases List.mem_append.1 ht with ht | ht
    · exact a.rng t ht
    · rw [List.mem_singleton.1 ht, en]
      show 1 ≤ x.last + 1 ∧ x.last + 1 ≤ x.last + 1
      omega
theorem TabT.same {w w' : World} {bt mh : Nat} {H : List Hs} (h : TabT w bt mh H) (hk : Kept w.heap.size mh w w') (hm : MapAt w' mh tkey (H.map hEnt)) : TabT w' bt mh H :=
  ⟨h.tab.kept hk (h.tab.ne_map h.map), hm, fun x hx => (h.hs x hx).keptS (KeptS.of_kept (S := fun k => k = mh) hk rfl) (by
    rintro k (rfl | rfl | ⟨s, hs, rfl⟩) e
    · exact (h.hs x hx).obj.ne_map h.map e
    · exact h.ne x hx e
    · exact ((h.hs x hx).kid s hs).ne_map h.map e), h.db, h.dl, h.ne⟩
theorem TabT.push {w w' : World} {bt mh : Nat} {H : List Hs} {x : Hs} (h : TabT w bt mh H) (a : HsAt w x) (hk : Kept w.heap.size mh w w') (hm : MapAt w' mh tkey (H.map hEnt ++ [hEnt x])) (n1 : ¬ TabHas bt mh H x.bh) (n2 : ¬ TabHas bt mh H x.ml) : TabT w' bt mh (H ++ [x]) := by
  have hx : HsAt w' x := a.keptS (KeptS.of_kept (S := fun k => k = mh) hk rfl) (by
    rintro k (rfl | rfl | ⟨s, hs, rfl⟩) e
    · exact a.obj.ne_map h.map e
    · exact n2 (.inr (.inl e))
    · exact (a.kid s hs).ne_map h.map e)
  refine ⟨h.tab.kept hk (h.tab.ne_map h.map), by rw [List.map_append]; exact hm, fun y hy => ?_, ?_, ?_, fun y hy => ?_⟩
  · rcases List.mem_append.1 hy with hy | hy
    · exact (h.hs y hy).keptS (KeptS.of_kept (S := fun k => k = mh) hk rfl) (by
        rintro k (rfl | rfl | ⟨s, hs, rfl⟩) e
        · exact (h.hs y hy).obj.ne_map h.map e
        · exact h.ne y hy e
        · exact ((h.hs y hy).kid s hs).ne_map h.map e)
    · rw [List.mem_singleton.1 hy]; exact hx
  · rw [List.map_append]
    refine List.nodup_append.2 ⟨h.db, by simp, fun p hp q hq e => ?_⟩
    obtain ⟨y, hy, rfl⟩ := List.mem_map.1 hp
    simp only [List.map_cons, List.map_nil, List.mem_singleton] at hq
    exact n1 (.inr (.inr ⟨y, hy, .inl (by rw [← hq, e])⟩))
  · rw [List.map_append]
    refine List.nodup_append.2 ⟨h.dl, by simp, fun p hp q hq e => ?_⟩
    obtain ⟨y, hy, rfl⟩ := List.mem_map.1 hp
    simp only [List.map_cons, List.map_nil, List.mem_singleton] at hq
    exact n2 (.inr (.inr ⟨y, hy, .inr (.inl (by rw [← hq, e]))⟩))
  · rcases List.mem_append.1 hy with hy | hy
    · exact h.ne y hy
    · rw [List.mem_singleton.1 hy]; exact fun e => n2 (.inr (.inl e))
/-- The end of an Open that makes a session. -/
theorem open_end {w w3 W5 W6 : World} {bt mh : Nat} {H : List Hs} {nm : List UInt8} {nonce : Int} {x : Hs} {s : Sn} (hw : TabT w bt mh H) (hb : Below w.heap.size w w3) (ha : HomeAt w3 w.heap.size H nm x) (k5 : KeptS (HsHas x) w3 W5) (a5 : HsAt W5 (more x s)) (hs5 : w.heap.size ≤ s.bs)
    (k6 : Kept W5.heap.size mh W5 W6) (m6 : MapAt W6 mh tkey (upd (H.map hEnt) nm (.pointer (some ⟨x.bh, 0, none⟩)))) (en : s.n = x.last + 1) (eo : s.nonce = nonce) (er : s.rv = .slice none 0 0) (hl : x.live.length < 64) (hno : ∀ t ∈ x.live, t.nonce ≠ nonce) :
    ∃ H', TabT W6 bt mh H' ∧ MovedT w W6 bt mh H H' ∧ Opened H nm nonce x s H' := by
  have h3 : TabT w3 bt mh H := hw.below hb
  have hmem : ∀ k, HsHas (more x s) k → HsHas x k ∨ w.heap.size ≤ k := by
    rintro k (e | e | ⟨t, ht, e⟩)
    · exact .inl (.inl e)
    · exact .inl (.inr (.inl e))
    · rcases List.mem_append.1 ht with ht | ht
      · exact .inl (.inr (.inr ⟨t, ht, e⟩))
      · rw [List.mem_singleton.1 ht] at e
        exact .inr (by rw [e]; exact hs5)
  rcases ha.is with hx | ⟨h1, h2, h2', hb1, hb2⟩
  · have h5 : TabT W5 bt mh (setH H (more x s)) := h3.putH hx rfl rfl rfl a5 k5
    have e1 : (setH H (more x s)).map hEnt = H.map hEnt := setH_map hEnt hw.names hx rfl rfl
    have e2 : look (H.map hEnt) nm = some (.pointer (some ⟨x.bh, 0, none⟩)) := by
      rw [look_seekH, ← ha.name, seekH_of hw.names hx]; rfl
    rw [upd_same e2, ← e1] at m6
    refine ⟨_, h5.same k6 m6, ⟨setH_has hx hmem, ?_⟩, ha.name, en, eo, er, hl, hno, .inl ⟨hx, rfl⟩⟩
    exact ((KeptS.of_below hb).next (k5.imp fun k e => .inr (.inr ⟨x, hx, e⟩))).next (KeptS.of_kept k6 (.inr (.inl rfl)))
  · have nh : ∀ k, HsHas x k → w.heap.size ≤ k := by
      rintro k (rfl | rfl | ⟨t, ht, -⟩)
      · exact hb1
      · exact hb2
      · rw [h2'] at ht; simp at ht
    have h5 : TabT W5 bt mh H := h3.keptS k5 fun k hk e => by have := hw.lt k hk; have := nh k e; omega
    have e2 : look (H.map hEnt) nm = none := by
      rw [look_seekH]
      cases e : seekH H nm with
      | none => rfl
      | some y => exact absurd (seekH_some e).2 (h1 y (seekH_some e).1)
    rw [upd_new (by
      intro h
      rw [List.map_map] at h
      obtain ⟨y, hy, e⟩ := List.mem_map.1 h
      exact h1 y hy e)] at m6
    refine ⟨_, h5.push (x := more x s) a5 k6 (by rw [← ha.name] at m6; exact m6) (fun e => by have := hw.lt _ e; have h : w.heap.size ≤ (more x s).bh := hb1; omega) (fun e => by have := hw.lt _ e; have h : w.heap.size ≤ (more x s).ml := hb2; omega), ⟨?_, ?_⟩, ha.name, en, eo, er, hl, hno, .inr ⟨h1, h2, h2', rfl⟩⟩
    · rintro k (e | e | ⟨y, hy, e⟩)
      · exact .inl (.inl e)
      · exact .inl (.inr (.inl e))
      · rcases List.mem_append.1 hy with hy | hy
        · exact .inl (.inr (.inr ⟨y, hy, e⟩))
        · rw [List.mem_singleton.1 hy] at e
          exact .inr ((hmem k e).elim (nh k) id)
    · have hbw5 : Below w.heap.size w W5 := hb.trans ((KeptS.below (B := w.heap.size) k5 nh hb.size))
      exact (KeptS.of_below hbw5).next (KeptS.of_kept k6 (.inr (.inl rfl)))

theorem seen_all {es : Array MapEntry} {seen : Array Nat} (h : (leftOf es seen).size = 0) : ∀ e ∈ es.toList, seen.contains e.born = true := by
  intro e he
  cases hc : seen.contains e.born with
  | true => rfl
  | false =>
    have hmem : e ∈ (leftOf es seen).toList := by
      unfold leftOf
      simp only [Array.toList_filter, List.mem_filter]
      exact ⟨he, by simp only [hc]; rfl⟩
    have := List.length_pos_of_mem hmem
    simp at this; omega
theorem HomeAt.off {w wr : World} {bt mh : Nat} {H : List Hs} {nm : List UInt8} {x : Hs} (h : HomeAt wr w.heap.size H nm x) (hw : TabT w bt mh H) (hb : Below w.heap.size w wr) : ¬ HsHas x bt ∧ ¬ HsHas x mh := by
  have ht := hw.below hb
  rcases h.is with hx | ⟨h1, h2, h3, h4, h5⟩
  · constructor
    · rintro (e | e | ⟨s, hs, e⟩)
      · exact ht.tab.ne_obj h.hs.obj (by decide) e
      · exact ht.tab.ne_map h.hs.live e
      · exact ht.tab.ne_obj (h.hs.kid s hs) (by decide) e
    · rintro (e | e | ⟨s, hs, e⟩)
      · exact h.hs.obj.ne_map ht.map e.symm
      · exact ht.ne x hx e.symm
      · exact (h.hs.kid s hs).ne_map ht.map e.symm
  · have l1 := hw.tab.lt
    have l2 := hw.map.lt
    constructor
    · rintro (e | e | ⟨s, hs, e⟩)
      · omega
      · omega
      · rw [h3] at hs; simp at hs
    · rintro (e | e | ⟨s, hs, e⟩)
      · omega
      · omega
      · rw [h3] at hs; simp at hs

set_option maxHeartbeats 4000000 in
theorem tab_open (bt mh : Nat) (H : List Hs) (nm : List UInt8) (nonce lease : Int) (w : World) (h : TabT w bt mh H) :
    Calls Try.prog 7 #[.pointer (some ⟨bt, 0, none⟩), tkey nm, .int .i64 nonce, .int .i64 lease] w (OpenP w bt mh H nm nonce) := by
  have HH := hid h
  clear h
  go_enter Try.func7, Try.ntmps7
  go_wp2_with fail
  refine (path_name ⟨nm.toArray⟩ _).mono ?_
  rintro e w1 ⟨rfl, hb⟩
  have HB := hid hb
  have HT := hid (HH.out.below hb)
  clear hb
  cases hname : nameOk (bl ⟨nm.toArray⟩) with
  | false =>
    clear hname
    go_wp2_with fail
    go_ret3
    exact .inl ⟨_, _, _, rfl, rfl, HB.out⟩
  | true =>
  have HNM := hid hname
  clear hname
  go_wp2_with fail
  refine (sess_number nonce _).mono ?_
  rintro e w2 ⟨rfl, rfl⟩
  cases hn : numOk nonce with
  | false =>
    clear hn
    go_wp2_with fail
    go_ret3
    exact .inl ⟨_, _, _, rfl, rfl, HB.out⟩
  | true =>
  have HNO := hid hn
  clear hn
  by_cases hl : 1 ≤ lease ∧ lease ≤ 1048576
  · obtain ⟨hl1, hl2⟩ := hl
    have c0 := ObjAt.cell HT.out.tab 0 (.map (some mh)) rfl
    have l0 := run_look (w := w1) Try.underlying54 keyT HT.out.map nm (.pointer none) (by kernel_rfl) false
    rw [look_seekH] at l0
    generalize hv : ((seekH H nm).map fun h => Value.pointer (some ⟨h.bh, 0, none⟩)).getD (.pointer none) = hval at l0
    have l1 : (Instr.lookup 54 (.map (some mh)) (tkey nm) false).run Try.prog w1 = .ok hval w1 := l0
    clear l0
    have q1 : (eqGuard BinOp.eql 59 (Operand.tmp 35) (Operand.const (Value.pointer none)) hval (Value.pointer none)).run Try.prog w1 = .ok () w1 := by
      cases hs : seekH H nm with
      | none => rw [hs] at hv; rw [← hv]; rfl
      | some x => rw [hs] at hv; rw [← hv]; rfl
    have q2 : (binOp BinOp.eql 59 hval (Value.pointer none)).run Try.prog w1 = .ok (.bool (seekH H nm).isNone) w1 := by
      cases hs : seekH H nm with
      | none => rw [hs] at hv; rw [← hv]; rfl
      | some x => rw [hs] at hv; rw [← hv]; rfl
    go_upto_if 36 with fail
    go_cut [11] from 15 (fun s11 wx => ∃ x : Hs, s11 = .pointer (some ⟨x.bh, 0, none⟩) ∧ Hid (HomeAt wx w.heap.size H nm x) ∧ Hid (Below w.heap.size w wx))
    case first =>
      clear q1 q2 l1
      cases hs : seekH H nm with
      | none =>
        rw [hs] at hv
        have HF := hid (seekH_none hs)
        have hv' : Value.pointer none = hval := hv
        subst hv'
        have hmm := @run_makeMap Try.prog
        clear hs hv
        go_wp2_with fail
        go_meet
        case rel =>
          refine ⟨⟨nm, w1.heap.size + 1, w1.heap.size, 0, []⟩, rfl, ⟨⟨?_, ?_, by simp, by simp, by show (0 : Int) ≤ 0 ∧ (0 : Int) ≤ 4611686018427387903; decide, ?_⟩, rfl, .inr ⟨HF.out, rfl, rfl, ?_, HB.out.size⟩⟩, ?_⟩
          · have h := ObjAt.new (w1.alloc (.map #[] 0)) 62 #[.int .i64 0, .map (some w1.heap.size)]
            rw [show (w1.alloc (.map #[] 0)).heap.size = w1.heap.size + 1 from by simp] at h
            exact h
          · exact (MapAt.new w1 ikey).below (below_new _)
          · have h := HNM.out
            unfold nameOk at h
            simp only [Bool.and_eq_true, decide_eq_true_eq] at h
            exact h.1.1.1.2
          · have := HB.out.size; show w.heap.size ≤ w1.heap.size + 1; omega
          · exact below_step HB.out HB.out.size (((Below.refl w1.heap.size w1).alloc (Nat.le_refl _) (.map #[] 0)).alloc (by simp) (.cells #[.int .i64 0, .map (some w1.heap.size)] 62))
      | some x =>
        rw [hs] at hv
        have HX := hid (seekH_some hs)
        have hv' : Value.pointer (some ⟨x.bh, 0, none⟩) = hval := hv
        subst hv'
        clear hs hv
        go_wp2_with fail
        go_meet
        case rel => exact ⟨x, rfl, ⟨HT.out.hs x HX.out.1, HX.out.2, .inl HX.out.1⟩, HB⟩
    case rest =>
      obtain ⟨x, rfl, HX, HBX⟩ := hcut
      clear HT HB c0 l1 q1 q2 hv
      generalize hwc : wc = w1' at *
      have h1 := ObjAt.cell HX.out.hs.obj 1 (.map (some x.ml)) rfl
      obtain ⟨arr, clock, hbm, hent, hbo, hnd, hks⟩ := HX.out.hs.live
      have hrg := _root_.Go.run_range_map (P := Try.prog) w1' _ _ _ x.ml arr clock Try.underlying60 hbm
      have hent' : arr.toList.map (fun e => (e.key, e.val)) = x.live.map fun s => (ikey s.n, .pointer (some ⟨s.bs, 0, none⟩)) := by rw [hent, List.map_map]; rfl
      have HE := hid hent'
      have HBO := hid hbo
      have HND := hid hnd
      have HBM := hid hbm
      clear hent hent' hbo hnd hks hbm hwc
      go_wp2_with fail
      clear hrg h1
      go_loopw [12, 13] (fun _ _ wr => ∃ seen, Hid (Below w1'.heap.size w1' wr) ∧ Hid (wr.heap[w1'.heap.size]? = some (.mapIter (some x.ml) clock seen clock)) ∧ Hid (wr.heap.size = w1'.heap.size + 1) ∧ Hid (∀ e ∈ arr.toList, ∀ s ∈ x.live, e.key = ikey s.n → seen.contains e.born = true → s.nonce ≠ nonce)) (fun _ _ wr => (leftOf arr (wr.iterSeen w1'.heap.size)).size)
      case atStart => exact ⟨#[], below_new _, heap_alloc_new _ _, by show (w1'.alloc _).heap.size = _; simp, fun e _ s _ _ h => by simp at h⟩
      case round =>
        obtain ⟨seen, HW, HR, HZ, HS⟩ := hrel
        have hml := HX.out.hs.live.lt
        have hbw : wr.heap[x.ml]? = some (.map arr clock) := (HW.out.block _ hml).trans HBM.out
        rcases run_next_at (P := Try.prog) wr 0 w1'.heap.size x.ml clock clock seen arr clock HR.out hbw HBO.out (Nat.le_refl _) with ⟨h0, hrun⟩ | ⟨e, he, w2, hw2, hrun⟩
        · have hrun' : ∀ ty, (Instr.next (.pointer (some ⟨w1'.heap.size, 0, none⟩)) false ty).run Try.prog wr = _ := fun _ => hrun
          have HNN : Hid (∀ t ∈ x.live, t.nonce ≠ nonce) := fun t ht => by
            have hm : (ikey t.n, Value.pointer (some ⟨t.bs, 0, none⟩)) ∈ arr.toList.map (fun e => (e.key, e.val)) := by rw [HE.out]; exact List.mem_map.2 ⟨t, ht, rfl⟩
            obtain ⟨e, he, ee⟩ := List.mem_map.1 hm
            exact HS.out e he t ht (Prod.mk.inj ee).1 (seen_all h0 e he)
          have HTw := hid (HX.out.below HW.out)
          have HBw := hid (below_step HBX.out HBX.out.size HW.out)
          clear hrun h0 hbw HR HZ HW HX HBX HE HBO HND HBM HS
          have h0 := ObjAt.cell HTw.out.hs.obj 0 (.int .i64 x.last) rfl
          have h1 := ObjAt.cell HTw.out.hs.obj 1 (.map (some x.ml)) rfl
          have f0 := ObjAt.frozen HTw.out.hs.obj 0
          have hlen := run_len (P := Try.prog) Try.underlying60 HTw.out.hs.live
          simp only [List.length_map] at hlen
          by_cases h64 : (64 : Int) ≤ x.live.length
          · go_wp2_with fail
            go_ret3
            exact .inl ⟨_, _, _, rfl, rfl, HBw.out⟩
          · by_cases hmax : x.last = 4611686018427387903
            · have e1 : (x.last == 4611686018427387903) = true := beq_iff_eq.2 hmax
              clear hmax
              go_wp2_with fail
              go_ret3
              exact .inl ⟨_, _, _, rfl, rfl, HBw.out⟩
            · have e1 : (x.last == 4611686018427387903) = false := beq_eq_false_iff_ne.2 hmax
              have HMX := hid hmax
              have hnum := HTw.out.hs.lst
              have HL64 : Hid (x.live.length < 64) := by show _ < _; omega
              clear hmax
              go_wp2_with fail
              have H4 := hid (HTw.out.hs.count (by have := HMX.out; omega))
              have K4 := hid (KeptS.of_kept (S := HsHas x) (Kept.set (B := wr.heap.size) wr ⟨x.bh, 0, none⟩ (.int .i64 (x.last + 1))) (.inl rfl))
              have hs4 := K4.out.size
              clear hrun' h0 h1 f0 hlen hml
              generalize wr.setCell ⟨x.bh, 0, none⟩ (.int .i64 (x.last + 1)) = W4 at *
              have h0 := ObjAt.cell H4.out.obj 0 (.int .i64 (x.last + 1)) rfl
              have h1 := ObjAt.cell H4.out.obj 1 (.map (some x.ml)) rfl
              have HX := hid ((below_new (w := W4) (.cells #[.string ⟨nm.toArray⟩, .int .i64 (x.last + 1), .int .i64 nonce, .int .i64 lease, .int .i64 0, .int .i64 0, .slice none 0 0] 50)).drew)
              have HTX := hid (H4.out.keptS (KeptS.of_below (S := fun _ => False) HX.out) (fun _ _ h => h))
              have HSX : Hid (ObjAt ((W4.alloc (.cells #[.string ⟨nm.toArray⟩, .int .i64 (x.last + 1), .int .i64 nonce, .int .i64 lease, .int .i64 0, .int .i64 0, .slice none 0 0] 50)).drew) W4.heap.size 50 #[.string ⟨nm.toArray⟩, .int .i64 (x.last + 1), .int .i64 nonce, .int .i64 lease, .int .i64 0, .int .i64 0, .slice none 0 0]) := ObjAt.new W4 50 #[.string ⟨nm.toArray⟩, .int .i64 (x.last + 1), .int .i64 nonce, .int .i64 lease, .int .i64 0, .int .i64 0, .slice none 0 0]
              obtain ⟨W5, hup, HM5, HK5, hz5, hd5⟩ := run_upd (P := Try.prog) Try.underlying60 keyI (w := (W4.alloc (.cells #[.string ⟨nm.toArray⟩, .int .i64 (x.last + 1), .int .i64 nonce, .int .i64 lease, .int .i64 0, .int .i64 0, .slice none 0 0] 50)).drew) HTX.out.live (x.last + 1) (.pointer (some ⟨W4.heap.size, 0, none⟩))
              have hq := H4.out.keptS (KeptS.of_below (S := fun _ => False) (below_new (w := W4) (.cells #[.string ⟨nm.toArray⟩, .int .i64 (x.last + 1), .int .i64 nonce, .int .i64 lease, .int .i64 0, .int .i64 0, .slice none 0 0] 50))) (fun _ _ h => h)
              have g0 := ObjAt.cell hq.obj 0 (.int .i64 (x.last + 1)) rfl
              have g1 := ObjAt.cell hq.obj 1 (.map (some x.ml)) rfl
              have HM5h := hid HM5
              have HK5h := hid HK5
              clear HM5 HK5 hz5 hd5 hq
              go_region
              have H5 : Hid (HsAt W5 (more x ⟨x.last + 1, W4.heap.size, nonce, lease, 0, 0, .slice none 0 0⟩)) := HTX.out.put (s := ⟨x.last + 1, W4.heap.size, nonce, lease, 0, 0, .slice none 0 0⟩) HK5h.out HM5h.out rfl (by unfold sCells; rw [HTw.out.name]; exact HSX.out) (fun t ht => (HTw.out.hs.rng t ht).2) hnum.1
              have K5 : Hid (KeptS (HsHas x) wr W5) := (K4.out.next (KeptS.of_below HX.out)).next (KeptS.of_kept HK5h.out (.inr (.inl rfl)))
              have hge : Hid (w.heap.size ≤ W4.heap.size) := Nat.le_trans HBw.out.size hs4
              have hw' := HH.out.below HBw.out
              have hoff := HTw.out.off HH.out HBw.out
              have map5 := hw'.map.keptS K5.out (fun h => hoff.2 h)
              have c0 := ObjAt.cell (hw'.tab.keptS K5.out (fun h => hoff.1 h)) 0 (.map (some mh)) rfl
              clear g0 g1 h0 h1 hup HM5h HK5h HX HTX HSX K4 H4 hw' hoff
              obtain ⟨W6, hup, HM6, HK6, hz6, hd6⟩ := run_upd (P := Try.prog) Try.underlying54 keyT (w := W5) map5 nm (.pointer (some ⟨x.bh, 0, none⟩))
              have q0 : W6.cell? ⟨x.bh, 0, none⟩ = some (.int .i64 (x.last + 1)) := ObjAt.cell (H5.out.obj.kept HK6 (H5.out.obj.ne_map map5)) 0 (.int .i64 (x.last + 1)) rfl
              have HEND := hid (open_end HH.out HBw.out HTw.out K5.out H5.out hge.out HK6 HM6 rfl rfl rfl HL64.out HNN.out)
              clear HM6 HK6 hz6 hd6 map5
              go_wp2_with fail
              go_ret3
              obtain ⟨H', t1, t2, t3⟩ := HEND.out
              exact .inr (.inr ⟨x, _, H', rfl, t1, t2, t3⟩)
        · obtain ⟨hmem, hns⟩ := mem_left he
          obtain ⟨s, hs, hpe⟩ : ∃ s ∈ x.live, (e.key, e.val) = (ikey s.n, Value.pointer (some ⟨s.bs, 0, none⟩)) := by
            have : (e.key, e.val) ∈ arr.toList.map (fun e => (e.key, e.val)) := List.mem_map.2 ⟨e, hmem, rfl⟩
            rw [HE.out] at this
            obtain ⟨p, hp, h⟩ := List.mem_map.1 this
            exact ⟨p, hp, h.symm⟩
          obtain ⟨q1, q2⟩ := Prod.mk.inj hpe
          have HSM := hid hs
          have HS2 : Hid (s.nonce ≠ nonce → ∀ e' ∈ arr.toList, ∀ t ∈ x.live, e'.key = ikey t.n → (seen.push e.born).contains e'.born = true → t.nonce ≠ nonce) := fun hne e' he' t ht hk hc => by
            rw [Array.contains_push, Bool.or_eq_true] at hc
            rcases hc with hc | hc
            · exact HS.out e' he' t ht hk hc
            · have eb : e'.born = e.born := by simpa using hc
              have ee : e' = e := nodup_inj HND.out he' hmem eb
              rw [ee, q1] at hk
              have en : s.n = t.n := by injection hk
              rw [← nodup_inj HX.out.hs.nums hs ht en]; exact hne
          rw [q1, q2] at hrun
          have hz2 : w2.heap = wr.heap := by rcases hw2 with rfl | rfl <;> rfl
          have hbl2 : Below w1'.heap.size w1' w2 := by
            rcases hw2 with rfl | rfl
            · exact HW.out
            · exact HW.out.drew
          have HR2 : Hid ((setBlock w2 w1'.heap.size (.mapIter (some x.ml) clock (seen.push e.born) clock)).heap[w1'.heap.size]? = some (.mapIter (some x.ml) clock (seen.push e.born) clock)) := by
            show (w2.heap.setIfInBounds _ _)[_]? = _
            rw [hz2]; simp [HZ.out]
          have HW2 := hid (below_kept hbl2 (kept_setMap (w := w2) (m := w1'.heap.size) (o := .mapIter (some x.ml) clock (seen.push e.born) clock)) (Nat.le_refl _) hbl2.size)
          have HZ2 : Hid ((setBlock w2 w1'.heap.size (.mapIter (some x.ml) clock (seen.push e.born) clock)).heap.size = w1'.heap.size + 1) := by
            show (w2.heap.setIfInBounds _ _).size = _
            rw [hz2]; simp [HZ.out]
          have hrun' : ∀ ty, (Instr.next (.pointer (some ⟨w1'.heap.size, 0, none⟩)) false ty).run Try.prog wr = _ := fun _ => hrun
          have HI : Hid (wr.iterSeen w1'.heap.size = seen) := by show _ = _; unfold World.iterSeen; rw [HR.out]
          have HSH := hid (left_shrinks arr seen e he)
          have hbw2 : (setBlock w2 w1'.heap.size (.mapIter (some x.ml) clock (seen.push e.born) clock)).heap[x.ml]? = some (.map arr clock) := (HW2.out.block _ hml).trans HBM.out
          have hen := run_entry_at (P := Try.prog) _ w1'.heap.size x.ml clock seen arr clock e HR2.out hbw2 hmem HND.out
          rw [q1, q2] at hen
          clear hbw hz2 hbl2 hbw2 hw2 HR HW HZ hrun he HS
          change Hid (Below w1'.heap.size w1' (setBlock w2 w1'.heap.size (.mapIter (some x.ml) clock (seen.push e.born) clock))) at HW2
          generalize setBlock w2 w1'.heap.size (.mapIter (some x.ml) clock (seen.push e.born) clock) = W at *
          have s2 := ObjAt.cell ((HX.out.hs.kid s hs).below HW2.out) 2 (.int .i64 s.nonce) rfl
          clear hs hpe q1 q2
          by_cases hno : s.nonce = nonce
          · have e1 : (s.nonce == nonce) = true := beq_iff_eq.2 hno
            clear hno
            go_wp2_with fail
            go_ret3
            rcases HX.out.is with hx | ⟨-, -, h0, -⟩
            · exact .inr (.inl ⟨x, hx, s, HSM.out, HX.out.name, rfl, below_step HBX.out HBX.out.size HW2.out⟩)
            · have := HSM.out
              rw [h0] at this; simp at this
          · have e1 : (s.nonce == nonce) = false := beq_eq_false_iff_ne.2 hno
            have HS3 := hid (HS2.out hno)
            clear hno HS2
            go_wp2_with fail
            go_roundw
            case rel => exact ⟨_, HW2, HR2, HZ2, HS3⟩
            case measure =>
              rw [HI.out]
              have : W.iterSeen w1'.heap.size = seen.push e.born := by unfold World.iterSeen; rw [HR2.out]
              rw [this]
              exact HSH.out
  · by_cases hl1 : lease < 1
    · clear hl
      go_wp2_with fail
      go_ret3
      exact .inl ⟨_, _, _, rfl, rfl, HB.out⟩
    · have hl2 : 1048576 < lease := by omega
      clear hl
      go_wp2_with fail
      go_ret3
      exact .inl ⟨_, _, _, rfl, rfl, HB.out⟩
end Go.Proofs.Ytdieomhddnhfoaa
