/-
  Interf: Attr.
-/
import Derived.Test.YtongefjadoidbaaInt4
namespace Go.Proofs.Ytongefjadoidbaa
open Go.RowKit
set_option maxRecDepth 20000
set_option linter.unusedVariables false

theorem mx2_max (a b : Int) : mx2 a b = max a b := by unfold mx2; split <;> omega
theorem joinL_get {l m : List Int} {i : Nat} (h1 : i < (joinL l m).length) (h2 : i < l.length) (h3 : i < m.length) : (joinL l m)[i] = mx2 l[i] m[i] := by
  simp only [joinL, List.getElem_zipWith]
theorem joinL_zero (n : Nat) (L : List It) : joinL (depsL n []) (depsL n L) = depsL n L := by
  apply List.ext_getElem
  · rw [joinL_len (by rw [depsL_len, depsL_len]), depsL_len, depsL_len]
  · intro i h1 h2
    rw [depsL_get]
    rw [depsL_len] at h2
    rw [joinL_get h1 (by rw [depsL_len]; exact h2) (by rw [depsL_len]; exact h2), depsL_get, depsL_get, mx2_max]
    have := depMax_nonneg (i : Int) L
    simp only [depMax]; omega
theorem inter0 (h : List UInt8) (S : List It) : interL 0 h S = [] := by
  unfold interL
  rw [List.filter_eq_nil_iff]
  intro i _ e
  unfold interB at e
  simp only [Bool.and_eq_true, decide_eq_true_iff] at e
  exact absurd e.1.1 (by decide)
theorem inter2 {n : Nat} (h : List UInt8) {S : List It} (hg : ∀ i ∈ S, GoodIt n i) : interL 2 h S = allL S := by
  unfold interL allL
  refine List.filter_congr fun i hi => ?_
  have := (hg i hi).1
  unfold KindOk at this
  unfold interB
  rw [Bool.eq_iff_iff]
  simp only [Bool.and_eq_true, Bool.or_eq_true, decide_eq_true_iff, Bool.not_eq_true', decide_eq_false_iff_not]
  constructor
  · rintro ⟨_, ⟨a, b⟩, _⟩; omega
  · intro a; exact ⟨⟨by decide, by decide⟩, ⟨by omega, by omega⟩, .inl trivial⟩
theorem inter1 {n : Nat} (h : List UInt8) {S : List It} (hg : ∀ i ∈ S, GoodIt n i) : interL 1 h S = S.filter fun i => decide (i.kind = 2) || (decide (i.kind = 1) && decide (i.home = h)) := by
  unfold interL
  refine List.filter_congr fun i hi => ?_
  have := (hg i hi).1
  unfold KindOk at this
  unfold interB
  rw [Bool.eq_iff_iff]
  simp only [Bool.and_eq_true, Bool.or_eq_true, decide_eq_true_iff]
  constructor
  · rintro ⟨_, ⟨h1, h2⟩, h3 | h3 | h3⟩
    · omega
    · exact .inl h3
    · by_cases e : i.kind = 2
      · exact .inl e
      · exact .inr ⟨by omega, h3.symm⟩
  · rintro (h1 | ⟨h1, h2⟩)
    · exact ⟨by omega, by omega, .inr (.inl h1)⟩
    · exact ⟨by omega, by omega, .inr (.inr h2.symm)⟩
theorem seqMax_app (A B : List It) : seqMax (A ++ B) = if seqMax A < seqMax B then seqMax B else seqMax A := by
  rw [← max_if]
  induction A with
  | nil => have := seqMax_nonneg B; simp only [List.nil_append, seqMax]; omega
  | cons i l ih => simp only [List.cons_append, seqMax, ih]; omega
theorem depMax_app (r : Int) (A B : List It) : depMax r (A ++ B) = max (depMax r A) (depMax r B) := by
  induction A with
  | nil => have := depMax_nonneg r B; simp only [List.nil_append, depMax]; omega
  | cons i l ih => simp only [List.cons_append, depMax, ih]; split <;> omega
theorem joinL_app (n : Nat) (A B : List It) : joinL (depsL n A) (depsL n B) = depsL n (A ++ B) := by
  apply List.ext_getElem
  · rw [joinL_len (by rw [depsL_len, depsL_len]), depsL_len, depsL_len]
  · intro i h1 h2
    rw [depsL_get, depMax_app]
    rw [depsL_len] at h2
    rw [joinL_get h1 (by rw [depsL_len]; exact h2) (by rw [depsL_len]; exact h2), depsL_get, depsL_get, mx2_max]
theorem inter1_mem {n : Nat} (h : List UInt8) {S : List It} (hg : ∀ i ∈ S, GoodIt n i) : ∀ i, i ∈ globL S ++ homeL h S ↔ i ∈ interL 1 h S := by
  intro i
  rw [inter1 h hg]
  unfold globL homeL
  rw [List.mem_append, List.mem_filter, List.mem_filter, List.mem_filter]
  simp only [Bool.or_eq_true]
  constructor
  · rintro (⟨a, b⟩ | ⟨a, b⟩)
    · exact ⟨a, .inl b⟩
    · exact ⟨a, .inr b⟩
  · rintro ⟨a, b | b⟩
    · exact .inl ⟨a, b⟩
    · exact .inr ⟨a, b⟩
def AttrPost (n : Nat) (S : List It) (k : Int) (h : List UInt8) (w : World) (e : Ending) (w' : World) : Prop := Below w.heap.size w w' ∧
  ((¬ KindOk k ∧ e = .returned (.tuple #[.int .i64 0, .slice none 0 0, .int .i64 100])) ∨
   (KindOk k ∧ ∃ v, e = .returned (.tuple #[.int .i64 (seqMax (interL k h S) + 1), v, .int .i64 0]) ∧ NewInts w (depsL n (interL k h S)) (.returned v) w'))

theorem infoPtr : (Try.prog.info? 61).map (fun i => (i.zero, i.size, i.bytes)) = some (some (.pointer none), 1, 8) := by kernel_rfl
/-- An entry that Attr asks. -/
structure Er where
  eb : Nat
  db : Nat
  t : TypeId
  rest : List Value
  L : List It
def mg (es : List Er) : List It := es.flatMap (·.L)
theorem mg_succ {es : List Er} {j : Nat} (hj : j < es.length) : mg (es.take (j + 1)) = mg (es.take j) ++ es[j].L := by
  unfold mg
  rw [List.take_succ_eq_append_getElem hj, List.flatMap_append]; simp
def eptr (e : Er) : Value := .pointer (some ⟨e.eb, 0, none⟩)
/-- The entries asked: where they lie, what they hold. -/
structure Asked (x : IdxP) (n : Nat) (S : List It) (es : List Er) : Prop where
  ent : ∀ w, IdxAt w x n S → ∀ e ∈ es, EntAt w e.eb e.db e.t e.rest (depsL n e.L) (seqMax e.L)
  sub : ∀ e ∈ es, ∀ i ∈ e.L, i ∈ S
theorem Asked.merged {x : IdxP} {n : Nat} {S : List It} {es : List Er} (h : Asked x n S es) (j : Nat) : ∀ i ∈ mg (es.take j), i ∈ S := by
  intro i hi
  unfold mg at hi
  obtain ⟨e, he, hie⟩ := List.mem_flatMap.1 hi
  exact h.sub e (List.mem_of_mem_take he) i hie

set_option maxHeartbeats 4000000 in
theorem idx_attr (x : IdxP) (n : Nat) (S : List It) (k : Int) (h : List UInt8) (d : Value) (w : World) (hx : IdxAt w x n S) :
    Calls Try.prog 9 #[.pointer (some ⟨x.ib, 0, none⟩), .agg #[.int .i64 k, .string ⟨h.toArray⟩, d]] w (AttrPost n S k h w) := by
  have HX := hid hx
  have HGD := hid hx.good
  have HLT : Hid (∀ k, x.Has k → k < w.heap.size) := fun k hk => hx.g.lt hk
  obtain ⟨i0', hi0, hz0, hs0, hy0⟩ := info_parts infoInt
  have h1 := hx.n1
  have h7 := hx.n7
  clear hx
  go_enter Try.func9, Try.ntmps9
  go_upto_region 1 with fail
  have hb1 := below_new (w := w) (.cells #[.int .i64 k, .string ⟨h.toArray⟩, d] 25)
  have HK := hid (ObjAt.new w 25 #[.int .i64 k, .string ⟨h.toArray⟩, d])
  have HB := hid hb1
  replace HX := hid (HX.out.below hb1)
  generalize w.alloc (.cells #[.int .i64 k, .string ⟨h.toArray⟩, d] 25) = W1 at *
  have hlw : w.heap.size < W1.heap.size := HK.out.lt
  generalize hkb : w.heap.size = kb at *
  have HKB := hid hkb
  clear hkb hb1
  go_upto_block 0 with fail
  go_cut [4, 5, 6, 7, 8] from 11 to 44 (fun s4 s5 s6 s7 s8 wx => s4 = .int .i64 0 ∧ ∃ (es : List Er) (a : Option Addr) (c : Nat), s7 = .slice a es.length c ∧ es.length ≤ 2 ∧ Hid (RowAt wx a (es.map eptr)) ∧ Hid (Asked x n S es) ∧ Hid (∀ i, i ∈ mg es ↔ i ∈ interL k h S) ∧ Hid (Below kb w wx) ∧ Hid (IdxAt wx x n S) ∧ KindOk k ∧ kb < wx.heap.size)
  case first =>
    have k0 := HK.out.cell 0 _ rfl
    have k1 := HK.out.cell 1 _ rfl
    have k2 := HK.out.cell 2 _ rfl
    go_wp2_with fail
    refine (int_known k h d _).mono ?_
    rintro e w3 ⟨rfl, hb⟩
    replace HX := hid (HX.out.below hb)
    replace HK := hid (HK.out.below hb)
    replace HB := hid (HB.out.trans (hb.mono (by omega)))
    have hl3 : kb < w3.heap.size := HK.out.lt
    clear k0 k1 k2 hb hlw W1
    by_cases hko : KindOk k
    · rw [decide_eq_true hko]
      have HKO := hid hko
      obtain ⟨hk0, hk2⟩ := hko
      have k0 := HK.out.cell 0 (.int .i64 k) rfl
      have k1 := HK.out.cell 1 (.string ⟨h.toArray⟩) rfl
      by_cases e2 : k = 2
      · subst e2
        have HM := hid (inter2 h HGD.out)
        have hb4 := below_new (w := w3) (.cells #[.pointer (some ⟨x.ib, 0, none⟩)] 61)
        have HR := hid (RowAt.new w3 #[.pointer (some ⟨x.ib, 0, none⟩)] 61 (0, 0))
        have HX4 := hid (HX.out.below hb4)
        have HB4 := hid (HB.out.trans (hb4.mono (by omega)))
        have hl4 := hb4.size
        clear hb4
        go_wp2_with fail
        go_meet
        case rel =>
          refine ⟨rfl, [⟨x.ib, x.db, 66, [.pointer (some ⟨x.gb, 0, none⟩), .map (some x.mb)], allL S⟩], _, _, rfl, by simp, HR.out, ⟨fun w hw e he => ?_, fun e he i hi => ?_⟩, ?_, HB4.out, HX4.out, HKO.out, by omega⟩
          · simp only [List.mem_singleton] at he; subst he; exact hw.g.all
          · simp only [List.mem_singleton] at he; subst he; exact (List.mem_filter.1 hi).1
          · show ∀ i, i ∈ mg _ ↔ _
            intro i; rw [HM.out]; simp [mg]
      · have hz2 : (k == 2) = false := beq_eq_false_iff_ne.2 e2
        by_cases e1 : k = 1
        · subst e1
          have HM := hid (inter1_mem h HGD.out)
          obtain ⟨capa, cua, hoa, -, -, -, -, -⟩ := HX.out.g.all
          have x2 := hoa.cell 2 (.pointer (some ⟨x.gb, 0, none⟩)) rfl
          have x3 := hoa.cell 3 (.map (some x.mb)) rfl
          have hb4 := below_new (w := w3) (.cells #[.pointer (some ⟨x.gb, 0, none⟩)] 61)
          have HO4 := hid (ObjAt.new w3 61 #[.pointer (some ⟨x.gb, 0, none⟩)])
          replace HX := hid (HX.out.below hb4)
          replace HB := hid (HB.out.trans (hb4.mono (by omega)))
          have y2 := (hb4.cell (p := ⟨x.ib, 3, none⟩) (lt_of_cell x3)).trans x3
          have y1 := (hb4.cell (p := ⟨kb, 1, none⟩) (lt_of_cell k1)).trans k1
          have hl4 := hb4.size
          clear hoa hb4 e2
          go_upto_region 8 with fail
          clear k0 k1 x2 x3
          generalize w3.alloc (.cells #[.pointer (some ⟨x.gb, 0, none⟩)] 61) = w4 at *
          generalize w3.heap.size = fb at *
          by_cases hin : h ∈ x.hs.map (·.1)
          · obtain ⟨p, hp, hpe⟩ := List.mem_map.1 hin
            have HPE := hid hpe
            have HP := hid hp
            have hlk : look (hmap x.hs) h = some (.pointer (some ⟨p.2.1, 0, none⟩)) := by rw [← hpe]; exact look_in HX.out.g.nokeys hp
            have hl : ∀ m, (Instr.lookup 64 (.map (some x.mb)) (.string ⟨h.toArray⟩) false).run Try.prog (w4.drewN m) = .ok (.pointer (some ⟨p.2.1, 0, none⟩)) (w4.drewN m) := fun m => by
              have r := run_look (w := w4.drewN m) Try.underlying64 keyT HX.out.g.homes h (.pointer none) (by kernel_rfl) false
              rw [hlk] at r; exact r
            clear hin hp hpe hlk
            go_quiet (fail)
            replace HX : Hid (IdxAt (w4.drewN nq) x n S) := HX.out.below (below_drewN' nq)
            replace HB : Hid (Below kb w (w4.drewN nq)) := HB.out.trans (below_drewN' nq)
            replace HO4 : Hid (ObjAt (w4.drewN nq) fb 61 #[.pointer (some ⟨x.gb, 0, none⟩)]) := HO4.out
            have hl5 : fb ≤ (w4.drewN nq).heap.size := Nat.le_of_lt HO4.out.lt
            clear hl y1 y2
            generalize w4.drewN nq = w5 at *
            have HW : Hid (w5.ownsRow kb 61 1 (.slice (some ⟨fb, 0, none⟩) 1 1) 1 [.pointer (some ⟨x.gb, 0, none⟩)]) :=
              ⟨rfl, .inr ⟨fb, 1, #[.pointer (some ⟨x.gb, 0, none⟩)], rfl, by omega, HO4.out, Nat.le_refl _, by unfold maxLen; omega, rfl, rfl⟩⟩
            go_wp2_with (at_builtin; refine wpList_app_one rfl (.tmp 41) (.tmp 43) 59 rfl kb 61 Try.underlying59 infoPtr rfl _ _ (.pointer (some ⟨p.2.1, 0, none⟩)) rfl HW.out rfl rfl (by simp) (by simp; unfold maxLen; omega) (by omega) ?_; intro v1 w6 ho1 hb1; refine Stop.mk ?_)
            have HO1 := hid ho1
            have hkk : KeptS (fun i => kb ≤ i) w5 w6 := KeptS.new hb1
            have HX6 : Hid (IdxAt w6 x n S) := HX.out.keptS hkk (fun i hi h => by have := HLT.out i hi; omega)
            have HB6 := hid (HB.out.trans hb1)
            obtain ⟨a6, c6, rfl, hr6, -, -⟩ := owns_row ho1
            have HR6 := hid hr6
            have hl6 := hkk.size
            clear ho1 hb1 hkk hr6 HW HO4 HX HB
            refine Stop.go ?_
            go_wp2_with fail
            go_meet
            case rel =>
              refine ⟨rfl, [⟨x.gb, x.gd, 63, [], globL S⟩, ⟨p.2.1, p.2.2, 63, [], homeL h S⟩], _, _, rfl, by simp, HR6.out, ⟨fun w hw e he => ?_, fun e he i hi => ?_⟩, ?_, HB6.out, HX6.out, HKO.out, by omega⟩
              · rcases List.mem_cons.1 he with rfl | he
                · exact hw.g.glob
                · simp only [List.mem_singleton] at he; subst he
                  have := hw.g.ents p HP.out
                  rw [HPE.out] at this; exact this
              · rcases List.mem_cons.1 he with rfl | he
                · exact (List.mem_filter.1 hi).1
                · simp only [List.mem_singleton] at he; subst he; exact (List.mem_filter.1 hi).1
              · show ∀ i, i ∈ mg _ ↔ _
                intro i; rw [← HM.out i]; simp [mg]
          · have HN0 := hid (homeL_out HX.out.keys hin)
            have hlk : look (hmap x.hs) h = none := look_out hin
            have hl : ∀ m, (Instr.lookup 64 (.map (some x.mb)) (.string ⟨h.toArray⟩) false).run Try.prog (w4.drewN m) = .ok (.pointer none) (w4.drewN m) := fun m => by
              have r := run_look (w := w4.drewN m) Try.underlying64 keyT HX.out.g.homes h (.pointer none) (by kernel_rfl) false
              rw [hlk] at r; exact r
            clear hin hlk
            go_quiet (fail)
            replace HX : Hid (IdxAt (w4.drewN nq) x n S) := HX.out.below (below_drewN' nq)
            replace HB : Hid (Below kb w (w4.drewN nq)) := HB.out.trans (below_drewN' nq)
            have HR : Hid (RowAt (w4.drewN nq) (some ⟨fb, 0, none⟩) [.pointer (some ⟨x.gb, 0, none⟩)]) := by
              intro j v hj
              refine ⟨fb, 0, rfl, ?_⟩
              rw [Nat.zero_add]
              exact HO4.out.cell j v (by simpa using hj)
            have hl5 : fb < (w4.drewN nq).heap.size := HO4.out.lt
            clear hl y1 y2 HO4
            generalize w4.drewN nq = w5 at *
            go_wp2_with fail
            go_meet
            case rel =>
              refine ⟨rfl, [⟨x.gb, x.gd, 63, [], globL S⟩], _, _, rfl, by simp, HR.out, ⟨fun w hw e he => ?_, fun e he i hi => ?_⟩, ?_, HB.out, HX.out, HKO.out, by omega⟩
              · simp only [List.mem_singleton] at he; subst he; exact hw.g.glob
              · simp only [List.mem_singleton] at he; subst he; exact (List.mem_filter.1 hi).1
              · show ∀ i, i ∈ mg _ ↔ _
                intro i; rw [← HM.out i, HN0.out]; simp [mg]
        · have e0 : k = 0 := by omega
          subst e0
          have HM := hid (inter0 h S)
          clear e1 e2
          go_wp2_with fail
          go_meet
          case rel => exact ⟨rfl, [], none, 0, rfl, by simp, RowAt.nil _ _, ⟨(fun w hw e he => by cases he), (fun e he => by cases he)⟩, (by show ∀ i, i ∈ mg [] ↔ _; intro i; rw [HM.out]; simp [mg]), HB.out, HX.out, HKO.out, by omega⟩
    · have HKO := hid hko
      rw [decide_eq_false hko]
      clear hko
      go_wp2_with fail
      go_ret3
      exact ⟨by rw [HKB.out]; exact HB.out, .inl ⟨HKO.out, rfl⟩⟩
  case rest =>
  obtain ⟨rfl, es, a, c, rfl, hes, HR, HAS, HMG, HBc, HXc, hko, hlc⟩ := hcut
  obtain ⟨cap0, cu0, ho0, -, -, -, -, -⟩ := HXc.out.g.all
  have x1 := ho0.cell 1 (.slice (some ⟨x.db, 0, none⟩) (depsL n (allL S)).length cap0) rfl
  rw [depsL_len] at x1
  clear ho0 HX HK HB hlw W1
  go_wp2_with (at_make; refine wpList_make_full _ rfl _ _ 32 rfl wc.heap.size 3 i0' (.int .i64 0) 1 Try.underlying32 hi0 hz0 hs0 _ _ _ _ n rfl rfl rfl rfl (by rw [hy0]; omega) (by unfold maxLen; omega) (Nat.le_refl _) ?_; intro w8 ho hg; refine Stop.mk ?_)
  obtain ⟨cuz, hOz, hCz⟩ := made_zero wc.heap.size ho
  have hb8 := (Below.refl wc.heap.size wc).grown hg (Nat.le_refl _) (fun k hk => by cases hk)
  have HO := hid hOz
  have HC : Hid (Cells cuz (depsL n (mg (es.take 0)))) := by
    show Cells _ _
    rw [List.take_zero, show mg [] = [] from rfl, depsL_nil]; exact hCz
  replace HXc := hid (HXc.out.below hb8)
  replace HBc := hid (HBc.out.trans (hb8.mono (by omega)))
  replace HR := hid (HR.out.below hb8)
  have hgz : kb ≤ wc.heap.size := by omega
  have hmaxn : n ≤ maxLen := by unfold maxLen; omega
  clear ho hg hb8 hOz hCz x1 hlc
  refine Stop.go ?_
  generalize wc.heap.size = gz at *
  go_wp2_with fail
  go_loopw [4, 5, 54] (fun s4 s5 s wr => ∃ (j g cap : Nat) (cu : Array Value), s = .int .i64 j ∧ j ≤ es.length ∧ s4 = .int .i64 (seqMax (mg (es.take j))) ∧ s5 = .slice (some ⟨g, 0, none⟩) n cap ∧ n ≤ cap ∧ cap ≤ maxLen ∧ kb ≤ g ∧ Hid (ObjAt wr g 3 cu) ∧ Hid (Cells cu (depsL n (mg (es.take j)))) ∧ Hid (Below kb w wr) ∧ Hid (IdxAt wr x n S) ∧ Hid (RowAt wr a (es.map eptr))) (fun _ _ s _ => es.length - (intOf s).toNat)
  case atStart => exact ⟨0, gz, n, cuz, rfl, Nat.zero_le _, rfl, rfl, Nat.le_refl _, hmaxn, hgz, HO, HC, HBc, HXc, HR⟩
  case round =>
    clear HO HC HBc HXc HR hgz
    obtain ⟨j, g, cap, cu, rfl, hj, rfl, rfl, hcap, hcm, hkg, HO, HC, HB, HX, HR⟩ := hrel
    by_cases hlt : j < es.length
    · obtain ⟨b, o, rfl, hc⟩ := HR.out.at j (by simpa using hlt)
      simp only [List.getElem_map, eptr] at hc
      obtain ⟨capE, cuE, hoE, hvE, hcE, -, -, -⟩ := HAS.out.ent wr HX.out es[j] (List.getElem_mem hlt)
      have e0 := hoE.cell 0 (.int .i64 (seqMax es[j].L)) rfl
      have e1 := hoE.cell 1 (.slice (some ⟨es[j].db, 0, none⟩) (depsL n es[j].L).length capE) rfl
      rw [depsL_len] at e1
      have HRE := hid (Cells.row hvE hcE)
      have HRD := hid (Cells.row HO.out HC.out)
      have HD1 := hid (show VecOk (depsL n (mg (es.take j))) from depsL_ok h1 h7 (fun i hi => (HGD.out i (HAS.out.merged j i hi)).2))
      have HD2 := hid (show VecOk (depsL n es[j].L) from depsL_ok h1 h7 (fun i hi => (HGD.out i (HAS.out.sub _ (List.getElem_mem hlt) i hi)).2))
      have HMS := hid (mg_succ hlt)
      clear hoE hvE hcE
      generalize es[j] = er at *
      generalize mg (es.take j) = A at *
      by_cases hs : seqMax A < seqMax er.L
      · have HV : Hid (seqMax er.L = seqMax (A ++ er.L)) := by
          show _ = _
          rw [seqMax_app, if_pos hs]
        go_wp2_with fail
        have hb4 := below_new (w := wr) (.cells #[.slice (some ⟨g, 0, none⟩) n cap, .slice (some ⟨er.db, 0, none⟩) n capE] 32)
        have HN := hid (ObjAt.new wr 32 #[.slice (some ⟨g, 0, none⟩) n cap, .slice (some ⟨er.db, 0, none⟩) n capE])
        replace HRE := hid (HRE.out.below hb4)
        replace HRD := hid (HRD.out.below hb4)
        replace HX := hid (HX.out.below hb4)
        replace HR := hid (HR.out.below hb4)
        have hsz := HB.out.size
        have hkr : kb ≤ wr.heap.size := by have := HO.out.lt; omega
        replace HB := hid (HB.out.trans (hb4.mono hkr))
        have hkq := hb4.size
        clear e0 e1 hc HO HC hb4
        generalize wr.alloc (.cells #[.slice (some ⟨g, 0, none⟩) n cap, .slice (some ⟨er.db, 0, none⟩) n capE] 32) = wq at *
        generalize wr.heap.size = nb at *
        refine (vec_join2 nb (some ⟨g, 0, none⟩) (some ⟨er.db, 0, none⟩) cap capE (depsL n A) (depsL n er.L) wq (by rw [depsL_len]; exact HN.out.cell 0 _ rfl) (by rw [depsL_len]; exact HN.out.cell 1 _ rfl) HRD.out HRE.out HD1.out HD2.out (by rw [depsL_len, depsL_len])).mono ?_
        rintro e w9 ⟨v, rfl, g9, cap9, cu9, hv9, ho, hc, hcp, hcm9, hgb, hb⟩
        simp only [Ending.returned.injEq] at hv9
        subst hv9
        rw [joinL_app] at hc hcp ⊢
        rw [depsL_len] at hcp ⊢
        have HO9 := hid ho
        have HC9 := hid hc
        have HX9 := hid (HX.out.below hb)
        have HR9 := hid (HR.out.below hb)
        have HB9 := hid (HB.out.trans (hb.mono (by omega)))
        have hkg9 : kb ≤ g9 := by omega
        clear ho hc hb HX HR HB HRE HRD HN hgb
        go_wp2_with fail
        go_roundw
        case rel => exact ⟨j + 1, g9, cap9, cu9, by go_num, by omega, by rw [HMS.out, ← HV.out], rfl, hcp, hcm9, hkg9, HO9, by rw [HMS.out]; exact HC9, HB9, HX9, HR9⟩
        case measure => simp [intOf]; omega
      · have HV : Hid (seqMax A = seqMax (A ++ er.L)) := by
          show _ = _
          rw [seqMax_app, if_neg hs]
        go_wp2_with fail
        have hb4 := below_new (w := wr) (.cells #[.slice (some ⟨g, 0, none⟩) n cap, .slice (some ⟨er.db, 0, none⟩) n capE] 32)
        have HN := hid (ObjAt.new wr 32 #[.slice (some ⟨g, 0, none⟩) n cap, .slice (some ⟨er.db, 0, none⟩) n capE])
        replace HRE := hid (HRE.out.below hb4)
        replace HRD := hid (HRD.out.below hb4)
        replace HX := hid (HX.out.below hb4)
        replace HR := hid (HR.out.below hb4)
        have hsz := HB.out.size
        have hkr : kb ≤ wr.heap.size := by have := HO.out.lt; omega
        replace HB := hid (HB.out.trans (hb4.mono hkr))
        have hkq := hb4.size
        clear e0 e1 hc HO HC hb4
        generalize wr.alloc (.cells #[.slice (some ⟨g, 0, none⟩) n cap, .slice (some ⟨er.db, 0, none⟩) n capE] 32) = wq at *
        generalize wr.heap.size = nb at *
        refine (vec_join2 nb (some ⟨g, 0, none⟩) (some ⟨er.db, 0, none⟩) cap capE (depsL n A) (depsL n er.L) wq (by rw [depsL_len]; exact HN.out.cell 0 _ rfl) (by rw [depsL_len]; exact HN.out.cell 1 _ rfl) HRD.out HRE.out HD1.out HD2.out (by rw [depsL_len, depsL_len])).mono ?_
        rintro e w9 ⟨v, rfl, g9, cap9, cu9, hv9, ho, hc, hcp, hcm9, hgb, hb⟩
        simp only [Ending.returned.injEq] at hv9
        subst hv9
        rw [joinL_app] at hc hcp ⊢
        rw [depsL_len] at hcp ⊢
        have HO9 := hid ho
        have HC9 := hid hc
        have HX9 := hid (HX.out.below hb)
        have HR9 := hid (HR.out.below hb)
        have HB9 := hid (HB.out.trans (hb.mono (by omega)))
        have hkg9 : kb ≤ g9 := by omega
        clear ho hc hb HX HR HB HRE HRD HN hgb
        go_wp2_with fail
        go_roundw
        case rel => exact ⟨j + 1, g9, cap9, cu9, by go_num, by omega, by rw [HMS.out, ← HV.out], rfl, hcp, hcm9, hkg9, HO9, by rw [HMS.out]; exact HC9, HB9, HX9, HR9⟩
        case measure => simp [intOf]; omega
    · have hje : j = es.length := by omega
      have HE : Hid (mg (es.take j) = mg es) := by show _ = _; rw [hje, List.take_length]
      have HS1 := hid (seqMax_same HMG.out)
      have HS2 := hid (depsL_same n HMG.out)
      have hsb : seqMax (mg (es.take j)) < 4611686018427387903 := seqMax_bound (n := n) (fun i hi => (HGD.out i (HAS.out.merged j i hi)).2)
      have hsb0 := seqMax_nonneg (mg (es.take j))
      clear hje
      go_wp2_with fail
      go_ret3
      refine ⟨by rw [HKB.out]; exact HB.out, .inr ⟨hko, .slice (some ⟨g, 0, none⟩) n cap, ?_, ?_⟩⟩
      · rw [← HS1.out, ← HE.out]; rfl
      · rw [← HS2.out, ← HE.out]
        exact ⟨g, cap, cu, by rw [depsL_len], HO.out, HC.out, by rw [depsL_len]; exact hcap, hcm, by rw [HKB.out]; exact hkg, by rw [HKB.out]; exact HB.out⟩
end Go.Proofs.Ytongefjadoidbaa
