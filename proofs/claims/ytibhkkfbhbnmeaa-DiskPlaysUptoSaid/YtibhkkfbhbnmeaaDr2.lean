/-
  The document's disk: lay.
-/
import Derived.Test.YtibhkkfbhbnmeaaDr1
namespace Go.Proofs.Ytibhkkfbhbnmeaa
open Go.RowKit
set_option maxRecDepth 20000
set_option linter.unusedVariables false

/-- 'append(v, u)', one element of several cells. -/
theorem wpList_app_st {P : Program} {w0 : World} {ops : Array Oper} {rest : List Oper} {o : Oper} {a : Act} {Q : Exit → Act → World → Prop} (hgd : o.guard = Option.none) (s x : Operand) (t : TypeId)
    (ho : o.op = .call { callee := .builtin .append, args := #[s, x], argTypes := #[t, t] })
    (base : Nat) (e : TypeId) {z : Value} {size bytes : Nat} (ht : P.underlying t = some (.slice e)) (hinfo : (P.info? e).map (fun i => (i.zero, i.size, i.bytes)) = some (some z, size, bytes)) (hzs : z.cells.size = size) (hsz : 0 < size)
    (v : Value) (n : Nat) (xs : List Value) (us : Array Value) (hs : a.eval s = v) (hown : w0.ownsRow base e size v n xs)
    (hx : a.eval x = .slice (some ⟨w0.heap.size, 0, Option.none⟩) 1 1) (hl : us.toList.length = size) (hu : ∀ u ∈ us.toList, u.oneCell' = true) (hlen : (n + 1) * bytes ≤ 140737488355328) (h63 : n + 1 ≤ maxLen) (hbase : base ≤ w0.heap.size)
    (h : ∀ v' w1, w1.ownsRow base e size v' (n + 1) (xs ++ us.toList) → Below base w0 w1 → wpList P ops Q rest (a.put o.dst v') w1) :
    wpList P ops Q (o :: rest) a (w0.alloc (.cells us e)) := by
  refine wpList_app hgd s x t ho base e ht hinfo hzs hsz v n xs hs (hown.alloc _) _ 1 1 us.toList hx (by omega) (RowAt.new _ _ _ _) hu h63 hlen (by simp; omega) (by simp) ?_
  intro v' w1 ho1 hg _
  exact h v' w1 ho1 ((((Below.refl base w0).alloc hbase _).grown hg (by simp; omega) (fun k hk => (hown.lt k hk).1)))

theorem infoFr : (Try.prog.info? 43).map (fun i => (i.zero, i.size, i.bytes)) = some (some (.agg #[.string ⟨#[]⟩, .slice none 0 0, .int .i64 0]), 3, 48) := by kernel_rfl
def insR : List Fr → Fr → List Fr
  | [], f => [f]
  | x :: L, f => if f.nm < x.nm then f :: x :: L else x :: insR L f
theorem insR_len : ∀ (L : List Fr) (f : Fr), (insR L f).length = L.length + 1
  | [], f => rfl
  | x :: L, f => by
    unfold insR
    split
    · simp
    · simp [insR_len L f]
theorem insR_mem : ∀ {L : List Fr} {f x : Fr}, x ∈ insR L f → x = f ∨ x ∈ L
  | [], f, x, h => .inl (by simpa [insR] using h)
  | y :: L, f, x, h => by
    unfold insR at h
    split at h
    · simpa using h
    · rcases List.mem_cons.1 h with rfl | h
      · exact .inr (List.mem_cons_self ..)
      · rcases insR_mem h with h | h
        · exact .inl h
        · exact .inr (List.mem_cons_of_mem _ h)
/-- What the loop of lay holds. -/
def LayAt (L : List Fr) (f : Fr) (i : Nat) (put : Bool) (out : List Fr) : Prop := if put then insR L f = out ++ L.drop i else out = L.take i ∧ insR L f = L.take i ++ insR (L.drop i) f
theorem LayAt.start (L : List Fr) (f : Fr) : LayAt L f 0 false [] := ⟨by simp, by simp⟩
theorem LayAt.yes {L : List Fr} {f : Fr} {i : Nat} {out : List Fr} (h : LayAt L f i true out) (hi : i < L.length) : LayAt L f (i + 1) true (out ++ [L[i]]) := by
  have h' : insR L f = out ++ L.drop i := h
  show insR L f = out ++ [L[i]] ++ L.drop (i + 1)
  rw [h', List.drop_eq_getElem_cons hi, List.append_assoc]; rfl
theorem LayAt.here {L : List Fr} {f : Fr} {i : Nat} {out : List Fr} (h : LayAt L f i false out) (hi : i < L.length) (hl : f.nm < L[i].nm) : LayAt L f (i + 1) true (out ++ [f] ++ [L[i]]) := by
  obtain ⟨h1, h2⟩ : out = L.take i ∧ insR L f = L.take i ++ insR (L.drop i) f := h
  show insR L f = out ++ [f] ++ [L[i]] ++ L.drop (i + 1)
  rw [h2, List.drop_eq_getElem_cons hi, insR, if_pos hl, h1]; simp
theorem LayAt.no {L : List Fr} {f : Fr} {i : Nat} {out : List Fr} (h : LayAt L f i false out) (hi : i < L.length) (hl : ¬ f.nm < L[i].nm) : LayAt L f (i + 1) false (out ++ [L[i]]) := by
  obtain ⟨h1, h2⟩ : out = L.take i ∧ insR L f = L.take i ++ insR (L.drop i) f := h
  refine ⟨?_, ?_⟩
  · rw [h1, List.take_succ_eq_append_getElem hi]
  · rw [h2, List.drop_eq_getElem_cons hi, insR, if_neg hl, List.take_succ_eq_append_getElem hi, List.append_assoc]; rfl
theorem LayAt.end_yes {L : List Fr} {f : Fr} {i : Nat} {out : List Fr} (h : LayAt L f i true out) (hi : i = L.length) : out = insR L f := by
  have h' : insR L f = out ++ L.drop i := h
  rw [h', hi, List.drop_length, List.append_nil]
theorem LayAt.end_no {L : List Fr} {f : Fr} {i : Nat} {out : List Fr} (h : LayAt L f i false out) (hi : i = L.length) : out ++ [f] = insR L f := by
  obtain ⟨h1, h2⟩ : out = L.take i ∧ insR L f = L.take i ++ insR (L.drop i) f := h
  rw [h2, h1, hi, List.drop_length]; rfl
theorem LayAt.len {L : List Fr} {f : Fr} {i : Nat} {p : Bool} {out : List Fr} (h : LayAt L f i p out) (hi : i ≤ L.length) : out.length ≤ i + 1 := by
  cases p with
  | true =>
    have h' : insR L f = out ++ L.drop i := h
    have := congrArg List.length h'
    rw [insR_len, List.length_append, List.length_drop] at this
    omega
  | false =>
    have h1 := (show out = L.take i ∧ insR L f = L.take i ++ insR (L.drop i) f from h).1
    rw [h1, List.length_take]; omega
def LayPost (w : World) (xd : Nat) (cap : Int) (B : Nat) (L : List Fr) (f : Fr) (e : Ending) (w' : World) : Prop :=
  e = .returned (.tuple #[]) ∧ ∃ lv', RfD w' xd cap B lv' (insR L f) ∧ (∀ k, lv'.ownBlock = some k → w.heap.size ≤ k) ∧ KeptS (fun k => k = xd) w w'
theorem frC_app (out : List Fr) (x : Fr) : (out ++ [x]).flatMap frC = out.flatMap frC ++ frC x := by simp

set_option maxHeartbeats 2000000 in
theorem refd_lay (xd B : Nat) (cap : Int) (lv : Value) (L : List Fr) (f : Fr) (w : World) (h : RfD w xd cap B lv L) (hl : L.length ≤ 1048576) (hf : w.ownsRow B 5 1 f.v f.b.length (f.b.map byt)) :
    Calls Try.prog 32 #[.pointer (some ⟨xd, 0, none⟩), .agg #[.string ⟨f.nm.toArray⟩, f.v, .int .i64 (f.safe : Nat)]] w (LayPost w xd cap B L f) := by
  obtain ⟨a, c, hlv, hrow⟩ := h.len
  obtain ⟨fa, fc, hfv, -, -, -, -⟩ := owns_bytes hf
  have HFV := hid hfv
  rw [hfv]
  subst hlv
  have HH := hid h
  have HF := hid hf
  clear h hrow hf hfv
  go_enter Try.func32, Try.ntmps32
  go_upto_region 1 with fail
  have hb1 := below_new (w := w) (.cells #[.string ⟨f.nm.toArray⟩, .slice fa f.b.length fc, .int .i64 (f.safe : Nat)] 43)
  have HX := hid (ObjAt.new w 43 #[.string ⟨f.nm.toArray⟩, .slice fa f.b.length fc, .int .i64 (f.safe : Nat)])
  have HH1 := hid (HH.out.below hb1)
  have HB1 := hid hb1
  clear hb1
  generalize w.alloc (.cells #[.string ⟨f.nm.toArray⟩, .slice fa f.b.length fc, .int .i64 (f.safe : Nat)] 43) = w1 at *
  have hs1 := HB1.out.size
  generalize hfbx : w.heap.size = fb at *
  have HFX := hid hfbx
  clear hfbx
  go_wp2_with fail
  go_loopw [4, 5, 6] (fun s4 s5 s6 wr => ∃ (i : Nat) (out : List Fr) (put : Bool), s5 = .bool put ∧ s6 = .int .i64 i ∧ i ≤ L.length ∧ Hid (wr.ownsRow w1.heap.size 43 3 s4 out.length (out.flatMap frC)) ∧ Hid (Below w1.heap.size w1 wr) ∧ Hid (LayAt L f i put out)) (fun _ _ s6 _ => L.length - (intOf s6).toNat)
  case atStart => exact ⟨0, [], false, rfl, rfl, Nat.zero_le _, ⟨rfl, .inl ⟨rfl, rfl⟩⟩, Below.refl _ _, LayAt.start L f⟩
  case round =>
    obtain ⟨i, out, put, rfl, rfl, hi, HO, HB, HL⟩ := hrel
    have HHw := hid (HH1.out.below HB.out)
    have HXw := hid (HX.out.below HB.out)
    have hol := HL.out.len hi
    have hsw := HB.out.size
    have c1 := HHw.out.obj.cell 1 (.slice a L.length c) rfl
    have y0 := HXw.out.cell 0 (.string ⟨f.nm.toArray⟩) rfl
    have y1 := HXw.out.cell 1 (.slice fa f.b.length fc) rfl
    have y2 := HXw.out.cell 2 (.int .i64 (f.safe : Nat)) rfl
    by_cases hlt : i < L.length
    · obtain ⟨a', c', e, hrow⟩ := HHw.out.len
      cases e
      obtain ⟨b, o, rfl, r0, r1, r2⟩ := row_fr hrow hlt
      obtain ⟨va, vc, hve, -, -, -, -⟩ := owns_bytes (HHw.out.bs L[i] (List.getElem_mem hlt))
      rw [hve] at r1
      have HVE := hid hve
      clear hve hrow
      have HY : put = true → Hid (LayAt L f (i + 1) true (out ++ [L[i]])) := fun e => (show LayAt L f i true out from e ▸ HL.out).yes hlt
      have HZ : put = false → f.nm < L[i].nm → Hid (LayAt L f (i + 1) true (out ++ [f] ++ [L[i]])) := fun e hl => (show LayAt L f i false out from e ▸ HL.out).here hlt hl
      have HN : put = false → ¬ f.nm < L[i].nm → Hid (LayAt L f (i + 1) false (out ++ [L[i]])) := fun e hl => (show LayAt L f i false out from e ▸ HL.out).no hlt hl
      have HY' := hid HY
      have HZ' := hid HZ
      have HN' := hid HN
      clear HY HZ HN HL
      generalize L[i] = x at *
      have HXC : Hid (frC x = (#[.string ⟨x.nm.toArray⟩, .slice va x.b.length vc, .int .i64 (x.safe : Nat)] : Array Value).toList) := by
        show frC x = _
        unfold frC; rw [HVE.out]
      generalize hs1b : w1.heap.size = s1 at *
      have HS1 := hid hs1b
      clear hs1b
      cases put with
      | true =>
        have HYY := HY'.out rfl
        clear HY' HZ' HN' y0 y1 y2
        go_upto_region 6 with fail
        go_quiet (fail)
        have hq := below_drewN' (B := wr.heap.size) (w := wr) nq
        have c1q := (HHw.out.below hq).obj.cell 1 (.slice (some ⟨b, o, none⟩) L.length c) rfl
        have q0 := (hq.cell (p := ⟨b, o + i * 3, none⟩) (lt_of_cell r0)).trans r0
        have q1 := (hq.cell (p := ⟨b, o + i * 3 + 1, none⟩) (lt_of_cell r1)).trans r1
        have q2 := (hq.cell (p := ⟨b, o + i * 3 + 2, none⟩) (lt_of_cell r2)).trans r2
        have HOq := hid (owns_below HO.out hq)
        have HBq := hid (HB.out.trans (hq.mono hsw))
        have hsq := Nat.le_trans hsw hq.size
        clear hq c1 r0 r1 r2 HO HB HHw HXw
        generalize wr.drewN nq = wq at *
        go_wp2_with (at_builtin; refine wpList_app_st rfl (.tmp 35) (.tmp 43) 28 rfl s1 43 Try.underlying28 infoFr rfl (by omega) _ out.length (out.flatMap frC) #[.string ⟨x.nm.toArray⟩, .slice va x.b.length vc, .int .i64 (x.safe : Nat)] rfl HOq.out rfl rfl (by simp [Value.oneCell']) (by omega) (by unfold maxLen; omega) (by omega) ?_; intro v5 w5 ho5 hb5; refine Stop.mk ?_)
        refine Stop.go ?_
        have HO5 : Hid (w5.ownsRow s1 43 3 v5 (out ++ [x]).length ((out ++ [x]).flatMap frC)) := by
          show World.ownsRow _ _ _ _ _ _ _
          rw [frC_app, HXC.out, List.length_append]; exact ho5
        have HB5 : Hid (Below s1 w1 w5) := HBq.out.trans hb5
        clear ho5 hb5 c1q q0 q1 q2
        go_wp2_with fail
        go_roundw
        case rel => exact ⟨i + 1, out ++ [x], true, rfl, by go_num, by omega, HO5.out, HB5.out, HYY.out⟩
        case measure => simp [intOf]; omega
      | false =>
        by_cases hlt2 : f.nm < x.nm
        · have HZZ := HZ'.out rfl hlt2
          have hbl : Op.bytesLess f.nm x.nm = true := by rw [bytesLess_eq]; exact decide_eq_true hlt2
          clear HY' HZ' HN' hlt2
          go_upto_region 6 with fail
          go_quiet (fail)
          have hq := below_drewN' (B := wr.heap.size) (w := wr) nq
          have c1q := (HHw.out.below hq).obj.cell 1 (.slice (some ⟨b, o, none⟩) L.length c) rfl
          have q0 := (hq.cell (p := ⟨b, o + i * 3, none⟩) (lt_of_cell r0)).trans r0
          have q1 := (hq.cell (p := ⟨b, o + i * 3 + 1, none⟩) (lt_of_cell r1)).trans r1
          have q2 := (hq.cell (p := ⟨b, o + i * 3 + 2, none⟩) (lt_of_cell r2)).trans r2
          have z0 := (HXw.out.below hq).cell 0 (.string ⟨f.nm.toArray⟩) rfl
          have z1 := (HXw.out.below hq).cell 1 (.slice fa f.b.length fc) rfl
          have z2 := (HXw.out.below hq).cell 2 (.int .i64 (f.safe : Nat)) rfl
          have HOq := hid (owns_below HO.out hq)
          have HBq := hid (HB.out.trans (hq.mono hsw))
          have HRq := hid (HHw.out.below hq)
          have hsq := Nat.le_trans hsw hq.size
          clear hq c1 r0 r1 r2 y0 y1 y2 HO HB HHw HXw
          generalize wr.drewN nq = wq at *
          go_wp2_with (at_builtin; refine wpList_app_st rfl (.tmp 31) (.tmp 33) 28 rfl s1 43 Try.underlying28 infoFr rfl (by omega) _ out.length (out.flatMap frC) #[.string ⟨f.nm.toArray⟩, .slice fa f.b.length fc, .int .i64 (f.safe : Nat)] rfl HOq.out rfl rfl (by simp [Value.oneCell']) (by omega) (by unfold maxLen; omega) (by omega) ?_; intro v4 w4 ho4 hb4; refine Stop.mk ?_)
          refine Stop.go ?_
          have HH1' : Hid (RfD w1 xd cap B (.slice (some ⟨b, o, none⟩) L.length c) L) := HH1.out
          have hbs : b < s1 := by have := (own_lt HH1'.out.row b rfl).2; have := HS1.out; omega
          have hxs : xd < s1 := by have := HH1'.out.obj.lt; have := HS1.out; omega
          have c1r := (hb4.cell (p := ⟨xd, 1, none⟩) hxs).trans c1q
          have p0 := (hb4.cell (p := ⟨b, o + i * 3, none⟩) hbs).trans q0
          have p1 := (hb4.cell (p := ⟨b, o + i * 3 + 1, none⟩) hbs).trans q1
          have p2 := (hb4.cell (p := ⟨b, o + i * 3 + 2, none⟩) hbs).trans q2
          have HFC : Hid (frC f = (#[.string ⟨f.nm.toArray⟩, .slice fa f.b.length fc, .int .i64 (f.safe : Nat)] : Array Value).toList) := by
            show frC f = _
            unfold frC; rw [HFV.out]
          have HO4' : Hid (w4.ownsRow s1 43 3 v4 (out ++ [f]).length ((out ++ [f]).flatMap frC)) := by
            show World.ownsRow _ _ _ _ _ _ _
            rw [frC_app, HFC.out, List.length_append]; exact ho4
          have hlof : (out ++ [f]).length = out.length + 1 := by simp
          have HB4 := hid (HBq.out.trans hb4)
          have hs4 := Nat.le_trans hsq hb4.size
          clear ho4 hb4 c1q q0 q1 q2 z0 z1 z2
          go_wp2_with (at_builtin; refine wpList_app_st rfl (.tmp 35) (.tmp 43) 28 rfl s1 43 Try.underlying28 infoFr rfl (by omega) _ (out ++ [f]).length ((out ++ [f]).flatMap frC) #[.string ⟨x.nm.toArray⟩, .slice va x.b.length vc, .int .i64 (x.safe : Nat)] rfl HO4'.out rfl rfl (by simp [Value.oneCell']) (by omega) (by unfold maxLen; omega) (by omega) ?_; intro v5 w5 ho5 hb5; refine Stop.mk ?_)
          refine Stop.go ?_
          have HO5 : Hid (w5.ownsRow s1 43 3 v5 (out ++ [f] ++ [x]).length ((out ++ [f] ++ [x]).flatMap frC)) := by
            show World.ownsRow _ _ _ _ _ _ _
            rw [frC_app (out ++ [f]) x, HXC.out, List.length_append]; exact ho5
          have HB5 : Hid (Below s1 w1 w5) := HB4.out.trans hb5
          clear ho5 hb5 c1r p0 p1 p2
          go_wp2_with fail
          go_roundw
          case rel => exact ⟨i + 1, out ++ [f] ++ [x], true, rfl, by go_num, by omega, HO5.out, HB5.out, HZZ.out⟩
          case measure => simp [intOf]; omega
        · have HNN := HN'.out rfl hlt2
          have hbl : Op.bytesLess f.nm x.nm = false := by rw [bytesLess_eq]; exact decide_eq_false hlt2
          clear HY' HZ' HN' hlt2
          go_upto_region 6 with fail
          go_quiet (fail)
          have hq := below_drewN' (B := wr.heap.size) (w := wr) nq
          have c1q := (HHw.out.below hq).obj.cell 1 (.slice (some ⟨b, o, none⟩) L.length c) rfl
          have q0 := (hq.cell (p := ⟨b, o + i * 3, none⟩) (lt_of_cell r0)).trans r0
          have q1 := (hq.cell (p := ⟨b, o + i * 3 + 1, none⟩) (lt_of_cell r1)).trans r1
          have q2 := (hq.cell (p := ⟨b, o + i * 3 + 2, none⟩) (lt_of_cell r2)).trans r2
          have HOq := hid (owns_below HO.out hq)
          have HBq := hid (HB.out.trans (hq.mono hsw))
          have hsq := Nat.le_trans hsw hq.size
          clear hq c1 r0 r1 r2 y0 y1 y2 HO HB HHw HXw
          generalize wr.drewN nq = wq at *
          go_wp2_with (at_builtin; refine wpList_app_st rfl (.tmp 35) (.tmp 43) 28 rfl s1 43 Try.underlying28 infoFr rfl (by omega) _ out.length (out.flatMap frC) #[.string ⟨x.nm.toArray⟩, .slice va x.b.length vc, .int .i64 (x.safe : Nat)] rfl HOq.out rfl rfl (by simp [Value.oneCell']) (by omega) (by unfold maxLen; omega) (by omega) ?_; intro v5 w5 ho5 hb5; refine Stop.mk ?_)
          refine Stop.go ?_
          have HO5 : Hid (w5.ownsRow s1 43 3 v5 (out ++ [x]).length ((out ++ [x]).flatMap frC)) := by
            show World.ownsRow _ _ _ _ _ _ _
            rw [frC_app, HXC.out, List.length_append]; exact ho5
          have HB5 : Hid (Below s1 w1 w5) := HBq.out.trans hb5
          clear ho5 hb5 c1q q0 q1 q2
          go_wp2_with fail
          go_roundw
          case rel => exact ⟨i + 1, out ++ [x], false, rfl, by go_num, by omega, HO5.out, HB5.out, HNN.out⟩
          case measure => simp [intOf]; omega
    · have hie : i = L.length := by omega
      have hxl := HHw.out.obj.lt
      have fz := HHw.out.obj.frozen 1
      have HYE : put = true → Hid (out = insR L f) := fun e => (show LayAt L f i true out from e ▸ HL.out).end_yes hie
      have HNE : put = false → Hid (out ++ [f] = insR L f) := fun e => (show LayAt L f i false out from e ▸ HL.out).end_no hie
      have HYE' := hid HYE
      have HNE' := hid HNE
      have HFIN : ∀ (W : World) (ov : Value) (xs : List Fr), Below w1.heap.size w1 W → W.ownsRow w1.heap.size 43 3 ov xs.length (xs.flatMap frC) → xs = insR L f → LayPost w xd cap B L f (.returned (.tuple #[])) (W.setCell ⟨xd, 1, none⟩ ov) := by
        intro W ov xs hbw how hxs
        subst hxs
        have hA := HH1.out.below hbw
        have hk : KeptS (fun k => k = xd) W (W.setCell ⟨xd, 1, none⟩ ov) := KeptS.set W ⟨xd, 1, none⟩ ov rfl
        have hx1 := HH1.out.obj.lt
        have hkw : KeptS (fun k => k = xd) w (W.setCell ⟨xd, 1, none⟩ ov) :=
          ((KeptS.of_below (by rw [HFX.out]; exact HB1.out)).next (KeptS.of_below hbw)).next hk
        have hoff : ∀ g, ov.ownBlock = some g → ¬ g = xd := fun g e => by have := (own_lt how g e).1; omega
        refine ⟨rfl, ov, ⟨hA.obj.set 1 ov, owns_base (own_keptS how hk hoff) ?_, fun x hx => ?_, hA.bx⟩, fun k e => ?_, hkw⟩
        · exact Nat.le_trans hA.bx (Nat.le_of_lt hx1)
        · have hbo : w1.ownsRow B 5 1 x.v x.b.length (x.b.map byt) := by
            rcases insR_mem hx with rfl | hx
            · exact owns_below HF.out (by rw [HFX.out]; exact HB1.out)
            · exact HH1.out.bs x hx
          exact own_keptS (owns_below hbo hbw) hk (fun k e => by
            obtain ⟨cur, hc⟩ := own_typed (owns_below hbo hbw) e
            exact hc.ne_obj hA.obj (by decide))
        · have := (own_lt how k e).1
          have := HFX.out
          omega
      have HFIN' := hid HFIN
      clear HYE HNE HL HFIN
      cases put with
      | true =>
        have HE := HYE'.out rfl
        clear HYE' HNE' y0 y1 y2
        have HOz := hid HO.out
        obtain ⟨oa, oc, rfl, -, -⟩ := owns_row HOz.out
        go_wp2_with fail
        go_end0
        exact HFIN'.out wr _ out HB.out HO.out HE.out
      | false =>
        have HE := HNE'.out rfl
        clear HYE' HNE'
        generalize hs1b : w1.heap.size = s1 at *
        have HS1 := hid hs1b
        clear hs1b
        go_wp2_with (at_builtin; refine wpList_app_st rfl (.tmp 47) (.tmp 49) 28 rfl s1 43 Try.underlying28 infoFr rfl (by omega) _ out.length (out.flatMap frC) #[.string ⟨f.nm.toArray⟩, .slice fa f.b.length fc, .int .i64 (f.safe : Nat)] rfl HO.out rfl rfl (by simp [Value.oneCell']) (by omega) (by unfold maxLen; omega) (by omega) ?_; intro v5 w5 ho5 hb5; refine Stop.mk ?_)
        refine Stop.go ?_
        have HFC : Hid (frC f = (#[.string ⟨f.nm.toArray⟩, .slice fa f.b.length fc, .int .i64 (f.safe : Nat)] : Array Value).toList) := by
          show frC f = _
          unfold frC; rw [HFV.out]
        have HO5 : Hid (w5.ownsRow s1 43 3 v5 (out ++ [f]).length ((out ++ [f]).flatMap frC)) := by
          show World.ownsRow _ _ _ _ _ _ _
          rw [frC_app, HFC.out, List.length_append]; exact ho5
        have HB5 : Hid (Below s1 w1 w5) := HB.out.trans hb5
        have HH5 := hid (HH1.out.below (by rw [HS1.out]; exact HB5.out))
        have c1r := HH5.out.obj.cell 1 (.slice a L.length c) rfl
        have fr5 := HH5.out.obj.frozen 1
        obtain ⟨oa, oc, rfl, -, -⟩ := owns_row ho5
        clear ho5 hb5 c1 y0 y1 y2
        go_wp2_with fail
        go_end0
        exact HFIN'.out w5 _ (out ++ [f]) HB5.out HO5.out HE.out
end Go.Proofs.Ytibhkkfbhbnmeaa
