/-
  Open where the session 1 is gone.
-/
import Derived.Test.YtdieomhddnhfoaaGone2
namespace Go.Proofs.Ytdieomhddnhfoaa
open Go.RowKit Go.ChangeMaps
set_option maxRecDepth 20000
set_option linter.unusedVariables false

theorem mem_upd {κ : Type} [DecidableEq κ] {l : List (κ × Value)} {k : κ} {v : Value} {p : κ × Value} (h : p ∈ upd l k v) : p ∈ l ∨ p = (k, v) := by
  unfold upd at h
  cases hf : l.findIdx? (fun p => p.1 == k) with
  | none => rw [hf] at h; rcases List.mem_append.1 h with h | h
            · exact .inl h
            · exact .inr (by simpa using h)
  | some j => rw [hf] at h; exact List.mem_or_eq_of_mem_set h
theorem map_ne {w : World} {m m' : Nat} {k1 : List UInt8} {k2 : Int} {v1 v2 : Value} (h : MapAt w m tkey [(k1, v1)]) (k : MapAt w m' ikey [(k2, v2)]) : m ≠ m' := by
  rintro rfl
  obtain ⟨a, c, h1, h2, _⟩ := h
  obtain ⟨a', c', g1, g2, _⟩ := k
  rw [h1] at g1
  cases g1
  rw [h2] at g2
  simp at g2
theorem house_ne_sess : 62 ≠ 50 := by decide

theorem GAt.moved {w w' : World} {x : Parts1} {n n' : Int} {es es' : List (Int × Value)} {b : Nat} (h : GAt w x n es) (hk : Kept w.heap.size b w w') (ht : x.bt ≠ b) (hs : ∀ p ∈ es, ∀ bs, p.2 = .pointer (some ⟨bs, 0, none⟩) → bs ≠ b)
    (hm : MapAt w' x.mh tkey [([97], .pointer (some ⟨x.bh, 0, none⟩))]) (hh : ObjAt w' x.bh 62 #[.int .i64 n', .map (some x.ml)]) (hl : MapAt w' x.ml ikey es') (hn : 1 ≤ n' ∧ n' ≤ 4611686018427387903)
    (hp : ∀ p ∈ es', p ∈ es ∨ p.1 ≠ 1 ∧ ∃ bs no cs, p.2 = .pointer (some ⟨bs, 0, none⟩) ∧ ObjAt w' bs 50 cs ∧ cs[2]? = some (.int .i64 no)) : GAt w' x n' es' :=
  ⟨h.tab.kept hk ht, hm, hh, hl, fun p hpm => by
    rcases hp p hpm with g | g
    · obtain ⟨g1, bs, no, cs, g2, g3, g4⟩ := h.kids p g
      exact ⟨g1, bs, no, cs, g2, g3.kept hk (hs p g bs g2), g4⟩
    · exact g, hn, h.ne⟩
theorem GAt.kid {w : World} {x : Parts1} {n : Int} {es : List (Int × Value)} (h : GAt w x n es) {p : Int × Value} (hp : p ∈ es) {bs : Nat} (e : p.2 = .pointer (some ⟨bs, 0, none⟩)) : ∃ cs, ObjAt w bs 50 cs := by
  obtain ⟨g1, bs', no, cs, g2, g3, g4⟩ := h.kids p hp
  rw [g2] at e
  injection e with e; injection e with e; injection e with e
  subst e
  exact ⟨cs, g3⟩
theorem GAt.count {w : World} {x : Parts1} {n : Int} {es : List (Int × Value)} (h : GAt w x n es) (hn : n ≠ 4611686018427387903) : GAt (w.setCell ⟨x.bh, 0, none⟩ (.int .i64 (n + 1))) x (n + 1) es := by
  have hk : Kept w.heap.size x.bh w (w.setCell ⟨x.bh, 0, none⟩ (.int .i64 (n + 1))) := Kept.set (B := w.heap.size) w ⟨x.bh, 0, none⟩ (.int .i64 (n + 1))
  have h1 := h.num
  exact h.moved hk (h.tab.ne_obj h.house (by decide)) (fun p hp bs e => by obtain ⟨cs, g⟩ := h.kid hp e; exact (h.house.ne_obj g house_ne_sess).symm)
    (h.houses.kept hk (h.house.ne_map h.houses).symm) (h.house.set 0 (.int .i64 (n + 1))) (h.live.kept hk (h.house.ne_map h.live).symm) (by omega) (fun p hp => .inl hp)
theorem GAt.put {w w' : World} {x : Parts1} {n k : Int} {es : List (Int × Value)} {bs : Nat} {cs : Array Value} {no : Int} (h : GAt w x n es) (hk : Kept w.heap.size x.ml w w') (hm : MapAt w' x.ml ikey (upd es k (.pointer (some ⟨bs, 0, none⟩)))) (hk1 : k ≠ 1)
    (ho : ObjAt w bs 50 cs) (hc : cs[2]? = some (.int .i64 no)) : GAt w' x n (upd es k (.pointer (some ⟨bs, 0, none⟩))) :=
  h.moved hk (h.tab.ne_map h.live) (fun p hp bs e => by obtain ⟨cs, g⟩ := h.kid hp e; exact g.ne_map h.live)
    (h.houses.kept hk h.ne) (h.house.kept hk (h.house.ne_map h.live)) hm h.num (fun p hp => by
      rcases mem_upd hp with g | rfl
      · exact .inl g
      · exact .inr ⟨hk1, bs, no, cs, rfl, ho.kept hk (ho.ne_map h.live), hc⟩)
theorem GAt.same {w w' : World} {x : Parts1} {n : Int} {es : List (Int × Value)} (h : GAt w x n es) (hk : Kept w.heap.size x.mh w w') (hm : MapAt w' x.mh tkey (upd [([97], .pointer (some ⟨x.bh, 0, none⟩))] [97] (.pointer (some ⟨x.bh, 0, none⟩)))) : GAt w' x n es :=
  h.moved hk (h.tab.ne_map h.houses) (fun p hp bs e => by obtain ⟨cs, g⟩ := h.kid hp e; exact g.ne_map h.houses)
    hm (h.house.kept hk (h.house.ne_map h.houses)) (h.live.kept hk h.ne.symm) h.num (fun p hp => .inl hp)

def OpenGone (w : World) (x : Parts1) (e : Ending) (w' : World) : Prop := ∃ (m : Int) (fresh : Bool) (f n' : Int) (es' : List (Int × Value)), e = .returned (.tuple #[.int .i64 m, .bool fresh, .int .i64 f]) ∧ (f = 0 → m ≠ 1) ∧ GAt w' x n' es' ∧ KeptS (Touch x) w w'

set_option maxHeartbeats 4000000 in
theorem gone_open (x : Parts1) (n : Int) (es : List (Int × Value)) (nonce lease : Int) (w : World) (h : GAt w x n es) (hl : 1 ≤ lease ∧ lease ≤ 1048576) :
    Calls Try.prog 7 #[.pointer (some ⟨x.bt, 0, none⟩), .string ⟨#[97]⟩, .int .i64 nonce, .int .i64 lease] w (OpenGone w x) := by
  have HH := hid h
  have hname := hid (show nameOk (bl ⟨#[97]⟩) = true from by decide +kernel)
  obtain ⟨hl1, hl2⟩ := hl
  clear h
  go_enter Try.func7, Try.ntmps7
  go_wp2_with fail
  refine (path_name ⟨#[97]⟩ _).mono ?_
  rintro e w1 ⟨rfl, hb⟩
  have HB := hid hb
  have HT := hid (HH.out.below hb)
  rw [hname.out]
  clear hb HH
  go_wp2_with fail
  refine (sess_number nonce _).mono ?_
  rintro e w2 ⟨rfl, rfl⟩
  cases hn : numOk nonce with
  | false =>
    clear hn
    go_wp2_with fail
    go_ret3
    exact ⟨0, false, 10, n, es, rfl, by decide, HT.out, KeptS.of_below HB.out⟩
  | true =>
  clear hn
  have c0 := ObjAt.cell HT.out.tab 0 (.map (some x.mh)) rfl
  have h1 := ObjAt.cell HT.out.house 1 (.map (some x.ml)) rfl
  have l1 : (Instr.lookup 54 (.map (some x.mh)) (.string ⟨#[97]⟩) false).run Try.prog w1 = .ok (.pointer (some ⟨x.bh, 0, none⟩)) w1 :=
    run_look (w := w1) Try.underlying54 keyT HT.out.houses [97] (.pointer none) (by kernel_rfl) false
  obtain ⟨arr, clock, hbm, hent, hbo, hnd, hks⟩ := HT.out.live
  have hrg := _root_.Go.run_range_map (P := Try.prog) w1 _ _ _ x.ml arr clock Try.underlying60 hbm
  have HE := hid hent
  have HBO := hid hbo
  have HND := hid hnd
  have HBM := hid hbm
  clear hent hbo hnd hks hbm
  go_wp2_with fail
  clear hrg l1 c0 h1
  go_loopw [12, 13] (fun _ _ wr => ∃ seen, Hid (Below w1.heap.size w1 wr) ∧ Hid (wr.heap[w1.heap.size]? = some (.mapIter (some x.ml) clock seen clock)) ∧ Hid (wr.heap.size = w1.heap.size + 1)) (fun _ _ wr => (leftOf arr (wr.iterSeen w1.heap.size)).size)
  case atStart => exact ⟨#[], below_new _, heap_alloc_new _ _, by show (w1.alloc _).heap.size = _; simp⟩
  case round =>
    obtain ⟨seen, HW, HR, HZ⟩ := hrel
    have hml := HT.out.live.lt
    have hbw : wr.heap[x.ml]? = some (.map arr clock) := (HW.out.block _ hml).trans HBM.out
    rcases run_next_at (P := Try.prog) wr 0 w1.heap.size x.ml clock clock seen arr clock HR.out hbw HBO.out (Nat.le_refl _) with ⟨h0, hrun⟩ | ⟨e, he, w2, hw2, hrun⟩
    · have hrun' : ∀ ty, (Instr.next (.pointer (some ⟨w1.heap.size, 0, none⟩)) false ty).run Try.prog wr = _ := fun _ => hrun
      have HTw := hid (HT.out.below HW.out)
      have HBw := hid ((KeptS.of_below (S := Touch x) HB.out).trans (KeptS.of_below HW.out))
      clear hrun h0 hbw HR HZ HW HT HBM HB HE HBO HND
      have h0 := ObjAt.cell HTw.out.house 0 (.int .i64 n) rfl
      have h1 := ObjAt.cell HTw.out.house 1 (.map (some x.ml)) rfl
      have f0 := ObjAt.frozen HTw.out.house 0
      have hlen := run_len (P := Try.prog) Try.underlying60 HTw.out.live
      by_cases h64 : (64 : Int) ≤ es.length
      · go_wp2_with fail
        go_ret3
        exact ⟨0, false, 61, n, es, rfl, by decide, HTw.out, HBw.out⟩
      · by_cases hmax : n = 4611686018427387903
        · have e1 : (n == 4611686018427387903) = true := beq_iff_eq.2 hmax
          clear hmax
          go_wp2_with fail
          go_ret3
          exact ⟨0, false, 61, n, es, rfl, by decide, HTw.out, HBw.out⟩
        · have e1 : (n == 4611686018427387903) = false := beq_eq_false_iff_ne.2 hmax
          have HMX := hid hmax
          have hnum := HTw.out.num
          clear hmax
          go_wp2_with fail
          have HT4 := hid (HTw.out.count HMX.out)
          have HB4 := hid (HBw.out.trans (KeptS.of_kept (S := Touch x) (Kept.set (B := wr.heap.size) wr ⟨x.bh, 0, none⟩ (.int .i64 (n + 1))) (.inr (.inl rfl))))
          clear hrun' h0 h1 f0 hlen HTw HBw hml
          generalize wr.setCell ⟨x.bh, 0, none⟩ (.int .i64 (n + 1)) = W4 at *
          have h0 := ObjAt.cell HT4.out.house 0 (.int .i64 (n + 1)) rfl
          have h1 := ObjAt.cell HT4.out.house 1 (.map (some x.ml)) rfl
          have HX := hid ((below_new (w := W4) (.cells #[.string ⟨#[97]⟩, .int .i64 (n + 1), .int .i64 nonce, .int .i64 lease, .int .i64 0, .int .i64 0, .slice none 0 0] 50)).drew)
          have HTX := hid (HT4.out.below HX.out)
          have HSX := hid (ObjAt.new W4 50 #[.string ⟨#[97]⟩, .int .i64 (n + 1), .int .i64 nonce, .int .i64 lease, .int .i64 0, .int .i64 0, .slice none 0 0])
          obtain ⟨W5, hup, HM5, HK5, hz5, hd5⟩ := run_upd (P := Try.prog) Try.underlying60 keyI
            (w := (W4.alloc (.cells #[.string ⟨#[97]⟩, .int .i64 (n + 1), .int .i64 nonce, .int .i64 lease, .int .i64 0, .int .i64 0, .slice none 0 0] 50)).drew) HTX.out.live (n + 1) (.pointer (some ⟨W4.heap.size, 0, none⟩))
          have g0 := ObjAt.cell (HT4.out.house.below (below_new (.cells #[.string ⟨#[97]⟩, .int .i64 (n + 1), .int .i64 nonce, .int .i64 lease, .int .i64 0, .int .i64 0, .slice none 0 0] 50))) 0 (.int .i64 (n + 1)) rfl
          have g1 := ObjAt.cell (HT4.out.house.below (below_new (.cells #[.string ⟨#[97]⟩, .int .i64 (n + 1), .int .i64 nonce, .int .i64 lease, .int .i64 0, .int .i64 0, .slice none 0 0] 50))) 1 (.map (some x.ml)) rfl
          have HM5h := hid HM5
          have HK5h := hid HK5
          clear HM5 HK5 hz5 hd5
          go_region
          have HT5 := hid (HTX.out.put (no := nonce) HK5h.out HM5h.out (by omega) HSX.out rfl)
          have HB5 := hid ((HB4.out.trans (KeptS.of_below HX.out)).trans (KeptS.of_kept HK5h.out (.inr (.inr (.inl rfl)))))
          clear g0 g1 h0 h1 hup HM5h HK5h HX HTX HSX HB4 HT4
          have c0 := ObjAt.cell HT5.out.tab 0 (.map (some x.mh)) rfl
          obtain ⟨W6, hup, HM6, HK6, hz6, hd6⟩ := run_upd (P := Try.prog) Try.underlying54 keyT (w := W5) HT5.out.houses [97] (.pointer (some ⟨x.bh, 0, none⟩))
          have HT6 := hid (HT5.out.same HK6 HM6)
          have HB6 := hid (HB5.out.trans (KeptS.of_kept HK6 (.inl rfl)))
          have q0 := ObjAt.cell HT6.out.house 0 (.int .i64 (n + 1)) rfl
          clear HK6 HM6 hz6 hd6
          go_wp2_with fail
          go_ret3
          exact ⟨n + 1, true, 0, n + 1, _, rfl, fun _ => by omega, HT6.out, HB6.out⟩
    · obtain ⟨hmem, -⟩ := mem_left he
      obtain ⟨p, hp, hpe⟩ : ∃ p ∈ es, (e.key, e.val) = (ikey p.1, p.2) := by
        have : (e.key, e.val) ∈ arr.toList.map (fun e => (e.key, e.val)) := List.mem_map.2 ⟨e, hmem, rfl⟩
        rw [HE.out] at this
        obtain ⟨p, hp, h⟩ := List.mem_map.1 this
        exact ⟨p, hp, h.symm⟩
      obtain ⟨hp1, bs, no, cs, hp2, hp3, hp4⟩ := HT.out.kids p hp
      obtain ⟨q1, q2⟩ := Prod.mk.inj hpe
      rw [hp2] at q2
      rw [q1, q2] at hrun
      have hz2 : w2.heap = wr.heap := by rcases hw2 with rfl | rfl <;> rfl
      have hbl2 : Below w1.heap.size w1 w2 := by
        rcases hw2 with rfl | rfl
        · exact HW.out
        · exact HW.out.drew
      have HR2 : Hid ((setBlock w2 w1.heap.size (.mapIter (some x.ml) clock (seen.push e.born) clock)).heap[w1.heap.size]? = some (.mapIter (some x.ml) clock (seen.push e.born) clock)) := by
        show (w2.heap.setIfInBounds _ _)[_]? = _
        rw [hz2]; simp [HZ.out]
      have HW2 := hid (below_kept hbl2 (kept_setMap (w := w2) (m := w1.heap.size) (o := .mapIter (some x.ml) clock (seen.push e.born) clock)) (Nat.le_refl _) hbl2.size)
      have HZ2 : Hid ((setBlock w2 w1.heap.size (.mapIter (some x.ml) clock (seen.push e.born) clock)).heap.size = w1.heap.size + 1) := by
        show (w2.heap.setIfInBounds _ _).size = _
        rw [hz2]; simp [HZ.out]
      have hrun' : ∀ ty, (Instr.next (.pointer (some ⟨w1.heap.size, 0, none⟩)) false ty).run Try.prog wr = _ := fun _ => hrun
      have HI : Hid (wr.iterSeen w1.heap.size = seen) := by show _ = _; unfold World.iterSeen; rw [HR.out]
      have HSH := hid (left_shrinks arr seen e he)
      have hbw2 : (setBlock w2 w1.heap.size (.mapIter (some x.ml) clock (seen.push e.born) clock)).heap[x.ml]? = some (.map arr clock) := (HW2.out.block _ hml).trans HBM.out
      have hen := run_entry_at (P := Try.prog) _ w1.heap.size x.ml clock seen arr clock e HR2.out hbw2 hmem HND.out
      rw [q1, q2] at hen
      clear hbw hz2 hbl2 hbw2 hw2 HR HW HZ hrun he
      change Hid (Below w1.heap.size w1 (setBlock w2 w1.heap.size (.mapIter (some x.ml) clock (seen.push e.born) clock))) at HW2
      generalize setBlock w2 w1.heap.size (.mapIter (some x.ml) clock (seen.push e.born) clock) = W at *
      have s2 := ObjAt.cell (hp3.below HW2.out) 2 (.int .i64 no) hp4
      clear hp2 hp3 hp4 hpe q1 q2
      generalize p.1 = m at *
      by_cases hno : no = nonce
      · have e1 : (no == nonce) = true := beq_iff_eq.2 hno
        clear hno
        go_wp2_with fail
        go_ret3
        exact ⟨m, false, 0, n, es, rfl, fun _ => hp1, HT.out.below HW2.out, (KeptS.of_below HB.out).trans (KeptS.of_below HW2.out)⟩
      · have e1 : (no == nonce) = false := beq_eq_false_iff_ne.2 hno
        clear hno
        go_wp2_with fail
        go_roundw
        case rel => exact ⟨_, HW2, HR2, HZ2⟩
        case measure =>
          rw [HI.out]
          have : W.iterSeen w1.heap.size = seen.push e.born := by unfold World.iterSeen; rw [HR2.out]
          rw [this]
          exact HSH.out
end Go.Proofs.Ytdieomhddnhfoaa
