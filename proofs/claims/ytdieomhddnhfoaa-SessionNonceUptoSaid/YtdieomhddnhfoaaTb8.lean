/-
  SessionNonce: the walk.
-/
import Derived.Test.YtdieomhddnhfoaaTb7
namespace Go.Proofs.Ytdieomhddnhfoaa
open Go.RowKit
set_option maxRecDepth 20000
set_option linter.unusedVariables false

theorem keyS : KeyOk Try.prog 30 skey := KeyOk.skey
/-- Behind a step. -/
def Nx (w : World) (bt mh gm j : Nat) (wx : World) : Prop := ∃ (E : List ((List UInt8 × Int) × Value)) (H : List Hs), NSt w wx bt mh gm E H ∧ GoodT (E.map (·.1)) H ∧ H.length ≤ j
theorem Nx.less {w wr wr' : World} {bt mh gm j : Nat} {E : List ((List UInt8 × Int) × Value)} {H : List Hs} (h : NSt w wr bt mh gm E H) (g : GoodT (E.map (·.1)) H) (hl : H.length ≤ j) (l : LessP wr bt mh H wr') : Nx w bt mh gm (j + 1) wr' := by
  obtain ⟨H', t1, t2, t3⟩ := l
  exact ⟨E, H', h.moved t1 t2, g.sub t3, by rw [Sub.len t3]; omega⟩
theorem Nx.same {w wr wr' : World} {bt mh gm j : Nat} {E : List ((List UInt8 × Int) × Value)} {H : List Hs} (h : NSt w wr bt mh gm E H) (g : GoodT (E.map (·.1)) H) (hl : H.length ≤ j) (hb : Below wr.heap.size wr wr') : Nx w bt mh gm (j + 1) wr' :=
  ⟨E, H, h.below hb, g, by omega⟩
theorem NSt.cellw {w wr : World} {bt mh gm : Nat} {E : List ((List UInt8 × Int) × Value)} {H : List Hs} (h : NSt w wr bt mh gm E H) {a : Option Addr} {vs : List Value} (hr : RowAt w a vs) : RowAt wr a vs := hr.below h.bel
theorem Nx.given {w wr wr' : World} {bt mh gm j : Nat} {E : List ((List UInt8 × Int) × Value)} {H : List Hs} {k : List UInt8 × Int} (h : NSt w wr bt mh gm E H) (g : GoodT (k :: E.map (·.1)) H) (hl : H.length ≤ j + 1) (hm : MapAt wr' gm skey (upd E k (.bool true))) (hk : Kept wr.heap.size gm wr wr') : Nx w bt mh gm (j + 1) wr' := by
  refine ⟨_, H, h.give hm hk, g.congr fun q => ?_, hl⟩
  rw [keys_upd]
  split
  · rename_i hin
    rw [List.mem_cons]
    exact ⟨.inr, fun q => q.elim (fun e => by rw [e]; exact hin) id⟩
  · rw [List.mem_append, List.mem_singleton, List.mem_cons]
    exact ⟨fun q => q.elim .inr .inl, fun q => q.elim .inr .inl⟩

theorem TabT.off {w : World} {bt mh b : Nat} {H : List Hs} {t : TypeId} {cs : Array Value} (h : TabT w bt mh H) (ho : ObjAt w b t cs) (n1 : t ≠ 56) (n2 : t ≠ 62) (n3 : t ≠ 50) : ¬ TabHas bt mh H b := by
  rintro (e | e | ⟨x, hx, e | e | ⟨s, hs, e⟩⟩)
  · exact ho.ne_obj h.tab n1 e
  · exact ho.ne_map h.map e
  · exact ho.ne_obj (h.hs x hx).obj n2 e
  · exact ho.ne_map (h.hs x hx).live e
  · exact ho.ne_obj ((h.hs x hx).kid s hs) n3 e
abbrev opC (q : Nq) (ra : Option Addr) (rn rc : Nat) : Array Value := #[.int .i64 q.kind, .int .i64 q.n, .int .i64 q.a, .int .i64 q.b, tkey q.nm, .slice ra rn rc, .slice q.ka q.ks.length q.kc]
theorem NSt.op {w wr wr' : World} {bt mh gm op : Nat} {E : List ((List UInt8 × Int) × Value)} {H H' : List Hs} {cs : Array Value} (h : NSt w wr bt mh gm E H) (ho : ObjAt wr op 47 cs) (m : MovedT wr wr' bt mh H H') : ObjAt wr' op 47 cs :=
  ho.keptS m.2 (h.tab.off ho (by decide) (by decide) (by decide))
theorem NSt.opL {w wr wr' : World} {bt mh gm op : Nat} {E : List ((List UInt8 × Int) × Value)} {H : List Hs} {cs : Array Value} (h : NSt w wr bt mh gm E H) (ho : ObjAt wr op 47 cs) (l : LessP wr bt mh H wr') : ObjAt wr' op 47 cs := by
  obtain ⟨H', t1, t2, t3⟩ := l
  exact h.op ho t2

set_option maxHeartbeats 4000000 in
theorem nonce_walk (a : Option Addr) (c : Nat) (os : List Nq) (w : World) (hr : RowAt w a (os.flatMap nqCells)) (ho : ∀ o ∈ os, NqAt w o) (hm : os.length ≤ 1048576) :
    Calls Try.prog 5 #[.slice a os.length c] w fun e w' => e = .returned (.bool true) ∧ Below w.heap.size w w' := by
  have HR := hid hr
  have HO := hid ho
  clear hr ho
  go_enter Try.func5, Try.ntmps5
  go_wp2_with fail
  refine (sess_new w).mono ?_
  rintro e w1 ⟨bt, mh, rfl, hnt, hbt, hmh, hb⟩
  have hmm := @run_makeMap Try.prog
  have HB := hid hb
  have HT : Hid (TabT w1 bt mh []) := ⟨hnt.1, hnt.2.1, by simp, by simp, by simp, by simp⟩
  clear hnt hb
  go_wp2_with fail
  have HN0 : Hid (NSt w (w1.alloc (.map #[] 0)) bt mh w1.heap.size [] []) := by
    have hl := HT.out.lt
    refine ⟨HT.out.below (below_new _), MapAt.new w1 skey, by simp, HB.out.trans ((below_new _).mono HB.out.size), fun k hk => ⟨?_, ?_⟩, HB.out.size⟩
    · rcases hk with rfl | rfl | ⟨h, hh, -⟩
      · exact hbt
      · exact hmh
      · simp at hh
    · have := hl k hk; omega
  clear HT HB hmm
  generalize w1.heap.size = gm at *
  go_loopw [27] (fun s wr => ∃ (j : Nat) (E : List ((List UInt8 × Int) × Value)) (H : List Hs), s = .int .i64 j ∧ j ≤ os.length ∧ H.length ≤ j ∧ Hid (NSt w wr bt mh gm E H) ∧ Hid (GoodT (E.map (·.1)) H)) (fun s _ => os.length - (intOf s).toNat)
  case atStart => exact ⟨0, [], [], rfl, Nat.zero_le _, Nat.le_refl _, HN0, GoodT.nil⟩
  case round =>
    clear HN0
    obtain ⟨j, E, H, rfl, hj, hlen, HN, HG⟩ := hrel
    by_cases hlt : j < os.length
    · have HRw := hid (HN.out.cellw HR.out)
      obtain ⟨b, o, rfl, hcell⟩ := row_nq HRw.out hlt
      have HOO := hid (HO.out _ (List.getElem_mem hlt))
      have hk0 := hcell 0 _ (by decide) rfl
      have hk1 := hcell 1 _ (by decide) rfl
      have hk2 := hcell 2 _ (by decide) rfl
      have hk3 := hcell 3 _ (by decide) rfl
      have hk4 := hcell 4 _ (by decide) rfl
      have hk5 := hcell 5 _ (by decide) rfl
      have hk6 := hcell 6 _ (by decide) rfl
      clear hcell HRw
      rw [Nat.add_zero] at hk0
      generalize os[j] = q at *
      obtain ⟨ra, rn, rc, hre⟩ := HOO.out.rep
      rw [hre] at hk5
      clear hre
      go_upto_region 8 with fail
      have hbn := below_new (w := wr) (.cells #[.int .i64 q.kind, .int .i64 q.n, .int .i64 q.a, .int .i64 q.b, tkey q.nm, .slice ra rn rc, .slice q.ka q.ks.length q.kc] 47)
      have HX := hid (ObjAt.new wr 47 #[.int .i64 q.kind, .int .i64 q.n, .int .i64 q.a, .int .i64 q.b, tkey q.nm, .slice ra rn rc, .slice q.ka q.ks.length q.kc])
      have HN2 := hid (HN.out.below hbn)
      clear hk0 hk1 hk2 hk3 hk4 hk5 hk6 hbn HN
      generalize wr.alloc (.cells #[.int .i64 q.kind, .int .i64 q.n, .int .i64 q.a, .int .i64 q.b, tkey q.nm, .slice ra rn rc, .slice q.ka q.ks.length q.kc] 47) = W2 at *
      generalize wr.heap.size = op at *
      have e0 := HX.out.cell 0 _ rfl
      have e1 := HX.out.cell 1 _ rfl
      have e4 := HX.out.cell 4 _ rfl
      go_upto_region 9 with fail
      have hbn := below_new (w := W2) (.cells #[tkey q.nm, .int .i64 q.n] 30)
      have HX3 := hid (HX.out.below hbn)
      have HK3 := hid (ObjAt.new W2 30 #[tkey q.nm, .int .i64 q.n])
      have HN3 := hid (HN2.out.below hbn)
      clear e0 e1 e4 hbn HX HN2
      generalize W2.alloc (.cells #[tkey q.nm, .int .i64 q.n] 30) = W3 at *
      generalize W2.heap.size = kb at *
      have e0 := HX3.out.cell 0 (.int .i64 q.kind) rfl
      go_upto_block 2 with fail
      go_cut [] from 36 to 101 (fun wx => Hid (Nx w bt mh gm (j + 1) wx) ∧ Hid (ObjAt wx op 47 #[.int .i64 q.kind, .int .i64 q.n, .int .i64 q.a, .int .i64 q.b, tkey q.nm, .slice ra rn rc, .slice q.ka q.ks.length q.kc]))
      case first =>
        by_cases k1 : q.kind = 1
        · have b1 : (q.kind == 1) = true := by rw [k1]; rfl
          clear k1
          have e2 := HX3.out.cell 2 (.int .i64 q.a) rfl
          have e3 := HX3.out.cell 3 (.int .i64 q.b) rfl
          have e4 := HX3.out.cell 4 (tkey q.nm) rfl
          go_wp2_with fail
          refine (tab_open bt mh H q.nm q.a q.b W3 HN3.out.tab).mono ?_
          rintro e w4 hp
          rcases hp with ⟨m, f, er, e1, rfl, hb⟩ | ⟨x, hx, s, hs, hxn, rfl, hb⟩ | ⟨x, s, H', rfl, t1, t2, t3⟩
          · have HX4 := hid (HX3.out.below hb)
            have HN4 := hid (HN3.out.below hb)
            clear e0 e2 e3 e4 hb HX3 HN3 HK3
            have e4 := HX4.out.cell 4 (tkey q.nm) rfl
            go_upto_region 13 with fail
            have hbn := below_new (w := w4) (.cells #[tkey q.nm, .int .i64 m] 30)
            have HX5 := hid (HX4.out.below hbn)
            have HN5 := hid (Nx.same HN4.out HG.out hlen hbn)
            clear e4 hbn HX4 HN4
            generalize w4.alloc (.cells #[tkey q.nm, .int .i64 m] 30) = W5 at *
            generalize w4.heap.size = qb at *
            go_wp2_with fail
            go_meet
            case rel => exact ⟨HN5, HX5⟩
          · have HX4 := hid (HX3.out.below hb)
            have HN4 := hid (HN3.out.below hb)
            have HIN : Hid ((q.nm, s.n) ∈ E.map (·.1)) := by
              have h := HG.out.mem x hx s hs
              rw [hxn] at h; exact h
            clear e0 e2 e3 e4 hb HX3 HN3 HK3 hx hs hxn
            have e4 := HX4.out.cell 4 (tkey q.nm) rfl
            generalize s.n = sn at *
            go_upto_region 13 with fail
            have hbn := below_new (w := w4) (.cells #[tkey q.nm, .int .i64 sn] 30)
            have HX5 := hid (HX4.out.below hbn)
            have HN5 := hid (HN4.out.below hbn)
            have HQ5 := hid (ObjAt.new w4 30 #[tkey q.nm, .int .i64 sn])
            clear e4 hbn HX4 HN4
            generalize w4.alloc (.cells #[tkey q.nm, .int .i64 sn] 30) = W5 at *
            generalize w4.heap.size = qb at *
            have q0 := HQ5.out.cell 0 (tkey q.nm) rfl
            have q1 := HQ5.out.cell 1 (.int .i64 sn) rfl
            have l0 := run_look (w := W5) Try.underlying44 keyS HN5.out.map (q.nm, sn) (.bool false) (by kernel_rfl) false
            rw [given_yes HN5.out.tru HIN.out] at l0
            have l1 : (Instr.lookup 44 (.map (some gm)) (.agg #[tkey q.nm, .int .i64 sn]) false).run Try.prog W5 = .ok (.bool true) W5 := l0
            obtain ⟨W6, hup, HM6, HK6, hz6, hd6⟩ := run_upd (P := Try.prog) Try.underlying44 keyS HN5.out.map (q.nm, sn) (.bool true)
            have HN6 := hid (Nx.given HN5.out (HG.out.congr (fun k => by rw [List.mem_cons]; exact ⟨fun e => e.elim (fun e => by rw [e]; exact HIN.out) id, .inr⟩)) (by omega : H.length ≤ j + 1) HM6 HK6)
            have HX6 := hid (HX5.out.kept HK6 (HX5.out.ne_map HN5.out.map))
            clear l0 HM6 HK6 hz6 hd6
            go_wp2_with fail
            go_meet
            case rel => exact ⟨HN6, HX6⟩
          · obtain ⟨o1, o2, o3⟩ := HG.out.opened HN3.out.tab t3
            have HX4 := hid (HN3.out.op HX3.out t2)
            have HN4 := hid (HN3.out.moved t1 t2)
            have HIN := hid o1
            have HG4 := hid o2
            have HL4 := hid o3
            clear e0 e2 e3 e4 HX3 HN3 HK3 t1 t2 t3 o1 o2 o3
            have e4 := HX4.out.cell 4 (tkey q.nm) rfl
            generalize x.last + 1 = sn at *
            go_upto_region 13 with fail
            have hbn := below_new (w := w4) (.cells #[tkey q.nm, .int .i64 sn] 30)
            have HX5 := hid (HX4.out.below hbn)
            have HN5 := hid (HN4.out.below hbn)
            have HQ5 := hid (ObjAt.new w4 30 #[tkey q.nm, .int .i64 sn])
            clear e4 hbn HX4 HN4
            generalize w4.alloc (.cells #[tkey q.nm, .int .i64 sn] 30) = W5 at *
            generalize w4.heap.size = qb at *
            have q0 := HQ5.out.cell 0 (tkey q.nm) rfl
            have q1 := HQ5.out.cell 1 (.int .i64 sn) rfl
            have l0 := run_look (w := W5) Try.underlying44 keyS HN5.out.map (q.nm, sn) (.bool false) (by kernel_rfl) false
            rw [given_no HN5.out.tru HIN.out] at l0
            have l1 : (Instr.lookup 44 (.map (some gm)) (.agg #[tkey q.nm, .int .i64 sn]) false).run Try.prog W5 = .ok (.bool false) W5 := l0
            obtain ⟨W6, hup, HM6, HK6, hz6, hd6⟩ := run_upd (P := Try.prog) Try.underlying44 keyS HN5.out.map (q.nm, sn) (.bool true)
            have HN6 := hid (Nx.given HN5.out HG4.out (by have := HL4.out; omega : H'.length ≤ j + 1) HM6 HK6)
            have HX6 := hid (HX5.out.kept HK6 (HX5.out.ne_map HN5.out.map))
            clear l0 HM6 HK6 hz6 hd6
            go_wp2_with fail
            go_meet
            case rel => exact ⟨HN6, HX6⟩
        · have b1 : (q.kind == 1) = false := beq_eq_false_iff_ne.2 k1
          by_cases k4 : q.kind = 4
          · have b4 : (q.kind == 4) = true := by rw [k4]; rfl
            clear k1 k4
            have e6 := HX3.out.cell 6 (.slice q.ka q.ks.length q.kc) rfl
            have HF : Hid (∀ ad, q.ka = some ad → q.ks ≠ [] → ¬ TabHas bt mh H ad.block) := fun ad e hne hh => by
              have h1 := (HN3.out.far _ hh).1
              have h2 := HOO.out.keys.lt (by
                intro h
                cases hks : q.ks with
                | nil => exact hne hks
                | cons k ks => rw [hks] at h; simp [kC] at h) ad e
              omega
            have hkl := HOO.out.len
            go_wp2_with fail
            refine (tab_renew bt mh H q.ka q.ks q.kc W3 HN3.out.tab (HN3.out.cellw HOO.out.keys) (by omega) HF.out).mono ?_
            rintro e w4 ⟨⟨er, rfl⟩, hp⟩
            have HX4 := hid (HN3.out.opL HX3.out hp)
            have HN4 := hid (Nx.less HN3.out HG.out hlen hp)
            clear hp
            go_wp2_with fail
            go_meet
            case rel => exact ⟨HN4, HX4⟩
          · have b4 : (q.kind == 4) = false := beq_eq_false_iff_ne.2 k4
            by_cases k5 : q.kind = 5
            · have b5 : (q.kind == 5) = true := by rw [k5]; rfl
              clear k1 k4 k5
              have e2 := HX3.out.cell 2 (.int .i64 q.a) rfl
              have g0 := HK3.out.cell 0 (tkey q.nm) rfl
              have g1 := HK3.out.cell 1 (.int .i64 q.n) rfl
              go_wp2_with fail
              refine (tab_expire bt mh H q.nm q.n q.a W3 HN3.out.tab).mono ?_
              rintro e w4 ⟨⟨er, rfl⟩, hp⟩
              have HX4 := hid (HN3.out.opL HX3.out hp)
              have HN4 := hid (Nx.less HN3.out HG.out hlen hp)
              clear hp
              go_wp2_with fail
              go_meet
              case rel => exact ⟨HN4, HX4⟩
            · have b5 : (q.kind == 5) = false := beq_eq_false_iff_ne.2 k5
              by_cases k6 : q.kind = 6
              · have b6 : (q.kind == 6) = true := by rw [k6]; rfl
                clear k1 k4 k5 k6
                have g0 := HK3.out.cell 0 (tkey q.nm) rfl
                have g1 := HK3.out.cell 1 (.int .i64 q.n) rfl
                go_wp2_with fail
                refine (tab_close bt mh H q.nm q.n W3 HN3.out.tab).mono ?_
                rintro e w4 ⟨⟨er, rfl⟩, hp⟩
                have HX4 := hid (HN3.out.opL HX3.out hp)
                have HN4 := hid (Nx.less HN3.out HG.out hlen hp)
                clear hp
                go_wp2_with fail
                go_meet
                case rel => exact ⟨HN4, HX4⟩
              · have b6 : (q.kind == 6) = false := beq_eq_false_iff_ne.2 k6
                clear k1 k4 k5 k6
                have HN4 := hid (Nx.same HN3.out HG.out hlen (Below.refl _ _))
                go_wp2_with fail
                go_meet
                case rel => exact ⟨HN4, HX3⟩
      case rest =>
        obtain ⟨HNX, HX⟩ := hcut
        obtain ⟨E', H', hn', hg', hl'⟩ := HNX.out
        have HN := hid hn'
        have HG' := hid hg'
        clear hn' hg' HNX HN3 HX3 HK3 e0 HG hlen
        have e4 := HX.out.cell 4 (tkey q.nm) rfl
        go_wp2_with fail
        have hbn := below_new (w := wc) (.cells #[tkey q.nm] 9)
        have HNb := hid (HN.out.below hbn)
        refine (tab_keys bt mh H' q.nm wc.heap.size 0 1 _ HNb.out.tab ((ObjAt.new wc 9 #[tkey q.nm]).cell 0 (tkey q.nm) rfl) (by omega) HG'.out.len).mono ?_
        rintro e w4 ⟨v, rfl, ho, hb⟩
        obtain ⟨va, vc, rfl, hr4, hvc1, hvc2⟩ := owns_row ho
        have HR4 := hid hr4
        have HN4 := hid (HNb.out.below hb)
        obtain ⟨L, hL⟩ : ∃ L, L = keysOf H' q.nm := ⟨_, rfl⟩
        rw [← hL] at HR4 hvc1 ⊢
        have HL := hid hL
        have hL64 : L.length ≤ 64 := by
          rw [hL]; unfold keysOf
          cases e : seekH H' q.nm with
          | none => simp
          | some x =>
            have := HG'.out.len x (seekH_some e).1
            simp [sortI_len]; omega
        clear e4 hbn HNb HN ho hr4 hb hL HX
        go_wp2_with fail
        go_loopw [112] (fun s wz => ∃ i : Nat, s = .int .i64 i ∧ i ≤ L.length ∧ Hid (Below w4.heap.size w4 wz)) (fun s _ => L.length - (intOf s).toNat)
        case atStart => exact ⟨0, rfl, Nat.zero_le _, Below.refl _ _⟩
        case round =>
          obtain ⟨i, rfl, hi, HBz⟩ := hrel
          have HNz := hid (HN4.out.below HBz.out)
          by_cases hlti : i < L.length
          · obtain ⟨b4, o4, rfl, a0, a1⟩ := row_k (HR4.out.below HBz.out) hlti
            have hat := hlti
            rw [HL.out] at hat
            obtain ⟨x, s, g1, g2, g3, g4, g5, g6⟩ := keys_at HNz.out.tab hat
            have g3' : L[i] = (q.nm, s.n) := by rw [← g3]; congr 1
            rw [g3'] at a0 a1
            have HGN : Hid ((q.nm, s.n) ∈ E'.map (·.1)) := by
              have h := HG'.out.mem x g5 s g4
              rw [g6] at h; exact h
            have G1 := hid g1
            have G2 := hid g2
            rw [g3] at g2
            have G2' := hid g2
            dsimp only at a0 a1
            clear g1 g2 g3 g3' g4 g5 g6
            go_upto_region 29 with fail
            have hbn := below_new (w := wr) (.cells #[tkey q.nm, .int .i64 s.n] 30)
            have HN5 := hid (HNz.out.below hbn)
            have HB5 := hid (HBz.out.trans (hbn.mono HBz.out.size))
            have HK5 := hid (ObjAt.new wr 30 #[tkey q.nm, .int .i64 s.n])
            clear a0 a1 hbn HNz HBz
            generalize wr.alloc (.cells #[tkey q.nm, .int .i64 s.n] 30) = W5 at *
            generalize wr.heap.size = ab at *
            have a0 := HK5.out.cell 0 (tkey q.nm) rfl
            have a1 := HK5.out.cell 1 (.int .i64 s.n) rfl
            go_wp2_with fail
            refine (tab_get bt mh H' q.nm s.n _ HN5.out.tab HG'.out.rv).mono ?_
            rintro e w6 ⟨hp, hb⟩
            have HN6 := hid (HN5.out.below hb)
            have HB6 := hid (HB5.out.trans (hb.mono HB5.out.size))
            have HK6 := hid (HK5.out.below hb)
            clear a0 a1 hb HN5 HB5 HK5
            rcases hp with ⟨x2, s2, va2, vc2, h1, h2, rfl⟩ | ⟨hno, -⟩
            · have es : s2 = s := by
                have e1 := Option.some.inj (G1.out.symm.trans h1)
                subst e1
                exact Option.some.inj (h2.symm.trans G2'.out)
              subst es
              clear h1 h2
              have a0 := HK6.out.cell 0 (tkey q.nm) rfl
              have a1 := HK6.out.cell 1 (.int .i64 s2.n) rfl
              unfold sCells
              go_upto_region 30 with fail
              have hbn := below_new (w := w6) (.cells #[.string ⟨q.nm.toArray⟩, .int .i64 s2.n, .int .i64 s2.nonce, .int .i64 s2.lease, .int .i64 s2.beats, .int .i64 s2.req, .slice va2 0 vc2] 50)
              have HN7 := hid (HN6.out.below hbn)
              have HB7 := hid (HB6.out.trans (hbn.mono HB6.out.size))
              have HK7 := hid (HK6.out.below hbn)
              have HX7 := hid (ObjAt.new w6 50 #[.string ⟨q.nm.toArray⟩, .int .i64 s2.n, .int .i64 s2.nonce, .int .i64 s2.lease, .int .i64 s2.beats, .int .i64 s2.req, .slice va2 0 vc2])
              clear a0 a1 hbn HN6 HB6 HK6
              generalize w6.alloc (.cells #[.string ⟨q.nm.toArray⟩, .int .i64 s2.n, .int .i64 s2.nonce, .int .i64 s2.lease, .int .i64 s2.beats, .int .i64 s2.req, .slice va2 0 vc2] 50) = W7 at *
              generalize w6.heap.size = xb at *
              have a0 := HK7.out.cell 0 (tkey q.nm) rfl
              have a1 := HK7.out.cell 1 (.int .i64 s2.n) rfl
              have l0 := run_look (w := W7) Try.underlying44 keyS HN7.out.map (q.nm, s2.n) (.bool false) (by kernel_rfl) false
              rw [given_yes HN7.out.tru HGN.out] at l0
              have l1 : (Instr.lookup 44 (.map (some gm)) (.agg #[tkey q.nm, .int .i64 s2.n]) false).run Try.prog W7 = .ok (.bool true) W7 := l0
              have hiv : i ≤ vc := by omega
              clear l0
              go_wp2_with fail
              clear a0 a1 l1
              go_loopw [135] (fun s wz => ∃ k : Nat, s = .int .i64 k ∧ k ≤ i ∧ Hid (Below W7.heap.size W7 wz)) (fun s _ => i - (intOf s).toNat)
              case atStart => exact ⟨0, rfl, Nat.zero_le _, Below.refl _ _⟩
              case round =>
                obtain ⟨k, rfl, hk, HBy⟩ := hrel
                have HNy := hid (HN7.out.below HBy.out)
                have HBw := hid (HB7.out.trans (HBy.out.mono HB7.out.size))
                by_cases hltk : k < i
                · have hkL : k < L.length := by omega
                  obtain ⟨b5, o5, e5, c0, c1⟩ := row_k (HR4.out.below HBw.out) hkL
                  simp only [Option.some.injEq, Addr.mk.injEq, and_true] at e5
                  obtain ⟨rfl, rfl⟩ := e5
                  have hat' := hkL
                  rw [HL.out] at hat'
                  obtain ⟨x3, s3, g1, g2, g3, g4, g5, g6⟩ := keys_at HNy.out.tab hat'
                  have g3' : L[k] = (q.nm, s3.n) := by rw [← g3]; congr 1
                  rw [g3'] at c0 c1
                  have htwo := keys_two HNy.out.tab HG'.out hat hltk G1.out G2.out g1 g2
                  have HE1 : Hid ((s3.nonce == s2.nonce) = false) := beq_eq_false_iff_ne.2 htwo.2
                  have HE2 : Hid (s3.n < s2.n) := htwo.1
                  rw [g3] at g2
                  have J1 := hid g1
                  have J2 := hid g2
                  dsimp only at c0 c1
                  clear g1 g2 g3 g3' g4 g5 g6 htwo hat'
                  go_upto_region 35 with fail
                  have hbn := below_new (w := wr) (.cells #[tkey q.nm, .int .i64 s3.n] 30)
                  have HN8 := hid (HNy.out.below hbn)
                  have HB8 := hid (HBy.out.trans (hbn.mono HBy.out.size))
                  have HK8 := hid (ObjAt.new wr 30 #[tkey q.nm, .int .i64 s3.n])
                  clear c0 c1 hbn HNy HBy HBw
                  generalize wr.alloc (.cells #[tkey q.nm, .int .i64 s3.n] 30) = W8 at *
                  generalize wr.heap.size = bb at *
                  have a0 := HK8.out.cell 0 (tkey q.nm) rfl
                  have a1 := HK8.out.cell 1 (.int .i64 s3.n) rfl
                  go_wp2_with fail
                  refine (tab_get bt mh H' q.nm s3.n _ HN8.out.tab HG'.out.rv).mono ?_
                  rintro e w9 ⟨hp, hb⟩
                  have HB9 := hid (HB8.out.trans (hb.mono HB8.out.size))
                  have HK9 := hid (HK8.out.below hb)
                  clear a0 a1 hb HN8 HB8 HK8
                  rcases hp with ⟨x4, s4, va4, vc4, h1, h2, rfl⟩ | ⟨hno, -⟩
                  · have es : s4 = s3 := by
                      have e1 := Option.some.inj (J1.out.symm.trans h1)
                      subst e1
                      exact Option.some.inj (h2.symm.trans J2.out)
                    subst es
                    clear h1 h2
                    unfold sCells
                    go_upto_region 36 with fail
                    have hbn := below_new (w := w9) (.cells #[.string ⟨q.nm.toArray⟩, .int .i64 s4.n, .int .i64 s4.nonce, .int .i64 s4.lease, .int .i64 s4.beats, .int .i64 s4.req, .slice va4 0 vc4] 50)
                    have HBA := hid (HB9.out.trans (hbn.mono HB9.out.size))
                    have HKA := hid (HK9.out.below hbn)
                    have HYA := hid (ObjAt.new w9 50 #[.string ⟨q.nm.toArray⟩, .int .i64 s4.n, .int .i64 s4.nonce, .int .i64 s4.lease, .int .i64 s4.beats, .int .i64 s4.req, .slice va4 0 vc4])
                    clear hbn HB9 HK9
                    generalize w9.alloc (.cells #[.string ⟨q.nm.toArray⟩, .int .i64 s4.n, .int .i64 s4.nonce, .int .i64 s4.lease, .int .i64 s4.beats, .int .i64 s4.req, .slice va4 0 vc4] 50) = WA at *
                    generalize w9.heap.size = yb at *
                    have y2 := HYA.out.cell 2 (.int .i64 s4.nonce) rfl
                    have x2' := (HX7.out.below HBA.out).cell 2 (.int .i64 s2.nonce) rfl
                    have b1 := HKA.out.cell 1 (.int .i64 s4.n) rfl
                    have a1 := (HK7.out.below HBA.out).cell 1 (.int .i64 s2.n) rfl
                    have t1 := HE1.out
                    have t2 := HE2.out
                    go_wp2_with fail
                    go_roundw
                    case rel => exact ⟨k + 1, by go_num, by omega, HBA⟩
                    case measure => simp [intOf]; omega
                  · obtain ⟨m1, m2⟩ := seekH_some J1.out
                    obtain ⟨m3, m4⟩ := seekS_some J2.out
                    exact absurd m4 (hno x3 m1 m2 s3 m3)
                · go_wp2_with fail
                  go_roundw
                  case rel => exact ⟨i + 1, by go_num, by omega, HBw⟩
                  case measure => simp [intOf]; omega
            · obtain ⟨m1, m2⟩ := seekH_some G1.out
              obtain ⟨m3, m4⟩ := seekS_some G2'.out
              exact absurd m4 (hno x m1 m2 s m3)
          · go_wp2_with fail
            go_roundw
            case rel => exact ⟨j + 1, E', H', by go_num, by omega, hl', HNz, HG'⟩
            case measure => simp [intOf]; omega
    · go_wp2_with fail
      refine (awake15 _).mono ?_
      rintro e w5 ⟨rfl, hb⟩
      have HBE := hid (HN.out.bel.trans (hb.mono HN.out.bel.size))
      clear hb
      go_wp2_with fail
      go_ret
      exact ⟨rfl, HBE.out⟩
end Go.Proofs.Ytdieomhddnhfoaa
