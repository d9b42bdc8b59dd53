/-
  WatchApart: a walk.
-/
import Derived.Test.YtjnbflhpboheiaaDoorWtV
namespace Go.Proofs.YtjnbflhpboheiaaDoor
open Go.RowKit Go.ChangeMaps
set_option maxRecDepth 20000
set_option linter.unusedVariables false

theorem ap_add (A : List Da) : (addE A ([], 0) ([47], 1) != 0) = true := by
  have hc : checkP ([], 0) ([47], 1) = 82 := by decide +kernel
  unfold addE
  rw [hc, if_neg (by decide)]; rfl

set_option maxHeartbeats 8000000 in
theorem apart_walk (k : List UInt8 × Int) (a : Option Addr) (c : Nat) (os : List Wq) (w : World) (hr : RowAt w a (os.flatMap wqC)) (ho : ∀ o ∈ os, WqAt w o) (hl : os.length ≤ 1759218604441) :
    Calls Tryd.prog 5 #[.slice a os.length c, .agg #[tkey k.1, .int .i64 k.2]] w fun e w' => e = .returned (.bool true) ∧ Below w.heap.size w w' := by
  obtain ⟨kh, kn⟩ := k
  have HR := hid hr
  have HO := hid ho
  clear hr ho
  have HK := hid (ObjAt.new w 28 #[tkey kh, .int .i64 kn])
  have HB := hid (below_new (w := w) (.cells #[tkey kh, .int .i64 kn] 28))
  go_enter Tryd.func5, Tryd.ntmps5
  go_wp2_with fail
  refine (hub_new _).mono ?_
  rintro e1 w1 ⟨hb, mh, rfl, ht, hb1, hb2, hbw⟩
  have HT1 := hid ht
  have HB1 := hid hbw
  clear ht hbw
  go_wp2_with fail
  refine (hub_new _).mono ?_
  rintro e2 w2 ⟨gb, gh, rfl, ht, hg1, hg2, hbw⟩
  have HP : Hid (PairAt w w2 w.heap.size (kh, kn) 0 hb mh [] gb gh []) := by
    have s0 := HB.out.size
    have s1 := HB1.out.size
    refine ⟨HT1.out.below hbw, ht, fun a ha => by simp [absD] at ha, fun a ha => by simp [absD] at ha, Int.le_refl _, Int.le_refl _, fresh_nil (by omega) (by omega), fresh_nil (by omega) (by omega), (HB.out.trans (HB1.out.mono s0)).trans (hbw.mono (by omega)), (HK.out.below HB1.out).below hbw, fun j hj hg => ?_⟩
    have q1 := HT1.out.lt j hj
    have q2 := fresh_nil hg1 hg2 j hg
    omega
  clear ht hbw HT1 HB1 HK HB hb1 hb2 hg1 hg2
  generalize w.heap.size = kb at *
  go_wp2_with fail
  go_loopw [26] (fun i wr => ∃ (j : Nat) (D G : List Dk), i = .int .i64 j ∧ j ≤ os.length ∧ Hid (PairAt w wr kb (kh, kn) (2 * j) hb mh D gb gh G) ∧ Hid (seekA (absD D) (kh, kn) = seekA (absD G) (kh, kn))) (fun i _ => os.length - (intOf i).toNat)
  case atStart => exact ⟨0, [], [], rfl, Nat.zero_le _, HP, rfl⟩
  case round =>
    clear HP
    obtain ⟨j, D, G, rfl, hj, HP, HV⟩ := hrel
    by_cases hlt : j < os.length
    · obtain ⟨b, o, rfl, hcs⟩ := flat_row wqC_len (by decide) (HR.out.below HP.out.below) hlt
      have HQ := hid (HO.out os[j] (List.getElem_mem hlt))
      have e0 : wr.cell? ⟨b, o + j * 6, none⟩ = some (.int .i64 os[j].kind) := hcs 0 _ rfl
      have e1 : wr.cell? ⟨b, o + j * 6 + 1, none⟩ = some (.int .i64 os[j].n) := hcs 1 _ rfl
      have e2 : wr.cell? ⟨b, o + j * 6 + 2, none⟩ = some (tkey os[j].kh) := hcs 2 _ rfl
      have e3 : wr.cell? ⟨b, o + j * 6 + 3, none⟩ = some (.int .i64 os[j].kn) := hcs 3 _ rfl
      have e4 : wr.cell? ⟨b, o + j * 6 + 4, none⟩ = some (tkey os[j].path) := hcs 4 _ rfl
      have e5 : wr.cell? ⟨b, o + j * 6 + 5, none⟩ = some (.slice os[j].ea os[j].es.length os[j].ec) := hcs 5 _ rfl
      clear hcs
      generalize os[j] = q at *
      obtain ⟨qk, qn, qh, qkn, qp, qa, qc, qe⟩ := q
      simp only at e0 e1 e2 e3 e4 e5
      have HOB := hid (ObjAt.new wr 43 #[.int .i64 qk, .int .i64 qn, tkey qh, .int .i64 qkn, tkey qp, .slice qa qe.length qc])
      have HBB := hid (below_new (w := wr) (.cells #[.int .i64 qk, .int .i64 qn, tkey qh, .int .i64 qkn, tkey qp, .slice qa qe.length qc] 43))
      have HP1 := hid (HP.out.next HBB.out)
      go_upto_region 7 with fail
      clear e0 e1 e2 e3 e4 e5 HBB HP
      generalize wr.heap.size = ob at *
      generalize wr.alloc (.cells #[.int .i64 qk, .int .i64 qn, tkey qh, .int .i64 qkn, tkey qp, .slice qa qe.length qc] 43) = w2 at *
      have e0 := HOB.out.cell 0 (.int .i64 qk) rfl
      have e1 := HOB.out.cell 1 (.int .i64 qn) rfl
      have e2 := HOB.out.cell 2 (tkey qh) rfl
      have e3 := HOB.out.cell 3 (.int .i64 qkn) rfl
      have e4 := HOB.out.cell 4 (tkey qp) rfl
      have e5 := HOB.out.cell 5 (.slice qa qe.length qc) rfl
      have k0 : w2.cell? ⟨kb, 0, none⟩ = some (tkey kh) := HP1.out.key.cell 0 (tkey kh) rfl
      have k1 : w2.cell? ⟨kb, 1, none⟩ = some (.int .i64 kn) := HP1.out.key.cell 1 (.int .i64 kn) rfl
      go_cut [38] from 30 to 38 (fun s38 wx => wx = w2 ∧ ∃ sm : Bool, s38 = .bool sm ∧ Hid (sm = true ↔ qk = 2 ∨ (qh, qkn) = (kh, kn)))
      case first =>
        by_cases h2 : qk = 2
        · subst h2
          go_wp2_with fail
          go_meet
          case rel => exact ⟨rfl, true, rfl, ⟨fun _ => .inl (by first | trivial | rfl), fun _ => rfl⟩⟩
        · have b2 : (qk == 2) = false := beq_eq_false_iff_ne.2 h2
          have H2 := hid h2
          clear h2
          by_cases hqh : qh = kh
          · subst hqh
            by_cases hqn : qkn = kn
            · subst hqn
              go_wp2_with fail
              go_meet
              case rel => exact ⟨rfl, true, rfl, ⟨fun _ => .inr (by first | trivial | rfl), fun _ => rfl⟩⟩
            · go_wp2_with fail
              go_meet
              case rel => exact ⟨rfl, false, rfl, ⟨(fun e => by cases e), fun q => q.elim (fun q => absurd q H2.out) (fun q => absurd (congrArg Prod.snd q) hqn)⟩⟩
          · go_wp2_with fail
            go_meet
            case rel => exact ⟨rfl, false, rfl, ⟨(fun e => by cases e), fun q => q.elim (fun q => absurd q H2.out) (fun q => absurd (congrArg Prod.fst q) hqh)⟩⟩
      case rest =>
        obtain ⟨rfl, sm, rfl, HSM⟩ := hcut
        clear e0 e1 e2 e3 e4 e5 k0 k1
        go_upto_if 38 with fail
        go_cut [] from 39 to 43 (fun wx => ∃ G', Hid (PairAt w wx kb (kh, kn) (2 * j + 1) hb mh D gb gh G') ∧ Hid ((sm = true → absD G' = stepA (absD G) ⟨qk, qn, qh, qkn, qp, qa, qc, qe⟩) ∧ (sm = false → absD G' = absD G)) ∧ Hid (ObjAt wx ob 43 #[.int .i64 qk, .int .i64 qn, tkey qh, .int .i64 qkn, tkey qp, .slice qa qe.length qc]))
        case first =>
          cases sm with
          | false =>
            have HP2 := hid (HP1.out.more (M := 2 * j + 1) (by omega))
            go_wp2_with fail
            go_meet
            case rel => exact ⟨G, HP2, ⟨(fun e => by cases e), fun _ => rfl⟩, HOB⟩
          | true =>
            have HX := hid (ObjAt.new wc 52 #[.slice none 0 0])
            have HBX := hid (below_new (w := wc) (.cells #[.slice none 0 0] 52))
            have HP2 := hid (HP1.out.next HBX.out)
            have HOB2 := hid (HOB.out.below HBX.out)
            have HQ2 := hid (HQ.out.below HP2.out.below)
            have HXB : Hid (w.heap.size ≤ wc.heap.size) := HP1.out.below.size
            have e0 := HOB2.out.cell 0 (.int .i64 qk) rfl
            have e1 := HOB2.out.cell 1 (.int .i64 qn) rfl
            have e2 := HOB2.out.cell 2 (tkey qh) rfl
            have e3 := HOB2.out.cell 3 (.int .i64 qkn) rfl
            have e4 := HOB2.out.cell 4 (tkey qp) rfl
            have e5 := HOB2.out.cell 5 (.slice qa qe.length qc) rfl
            go_wp2_with fail
            refine (wt_step gb gh G wc.heap.size ⟨qk, qn, qh, qkn, qp, qa, qc, qe⟩ (2 * j) _ HP2.out.hug HX.out HQ2.out (fun a ha => (HP2.out.goog a ha).ok) (by omega) (by have := HP2.out.leg; omega)).mono ?_
            rintro e5' w5 ⟨hbp, hs⟩
            obtain ⟨bb, rfl⟩ := hbp
            obtain ⟨G', a5, p5, keep⟩ := HP2.out.swap.step (by omega) HX.out HXB.out hs
            have HP5 := hid p5.swap
            have HA5 : Hid ((true = true → absD G' = stepA (absD G) ⟨qk, qn, qh, qkn, qp, qa, qc, qe⟩) ∧ (true = false → absD G' = absD G)) := ⟨fun _ => a5, (fun e => by cases e)⟩
            have HOB5 := hid (keep ob _ _ (by decide) (by decide) (by decide) (by decide) HOB2.out)
            clear hs a5 p5 keep e0 e1 e2 e3 e4 e5 HP2 HOB2 HQ2 HX HBX
            go_wp2_with fail
            go_meet
            case rel => exact ⟨G', HP5, HA5, HOB5⟩
        case rest =>
          obtain ⟨G', HP2, HGA, HOB2⟩ := hcut
          clear HP1 HOB
          generalize hwd : wc = wd at *
          clear hwd
          have HX := hid (ObjAt.new wd 52 #[.slice none 0 0])
          have HBX := hid (below_new (w := wd) (.cells #[.slice none 0 0] 52))
          have HP3 := hid (HP2.out.next HBX.out)
          have HOB3 := hid (HOB2.out.below HBX.out)
          have HQ3 := hid (HQ.out.below HP3.out.below)
          have HXB : Hid (w.heap.size ≤ wd.heap.size) := HP2.out.below.size
          have e0 := HOB3.out.cell 0 (.int .i64 qk) rfl
          have e1 := HOB3.out.cell 1 (.int .i64 qn) rfl
          have e2 := HOB3.out.cell 2 (tkey qh) rfl
          have e3 := HOB3.out.cell 3 (.int .i64 qkn) rfl
          have e4 := HOB3.out.cell 4 (tkey qp) rfl
          have e5 := HOB3.out.cell 5 (.slice qa qe.length qc) rfl
          go_wp2_with fail
          refine (wt_step hb mh D wd.heap.size ⟨qk, qn, qh, qkn, qp, qa, qc, qe⟩ (2 * j + 1) _ HP3.out.hub HX.out HQ3.out (fun a ha => (HP3.out.good a ha).ok) (by omega) (by have := HP3.out.len; omega)).mono ?_
          rintro e5' w5 ⟨hbp, hs⟩
          obtain ⟨bb, rfl⟩ := hbp
          obtain ⟨D', a5, p5, -⟩ := HP3.out.step (by omega) HX.out HXB.out hs
          have HP5 := hid (p5.more (M := 2 * (j + 1)) (by omega))
          have HV5 : Hid (seekA (absD D') (kh, kn) = seekA (absD G') (kh, kn)) := by
            show _ = _
            rw [a5]
            cases sm with
            | true =>
              rw [HGA.out.1 rfl]
              exact view_same (HSM.out.1 rfl) HV.out
            | false =>
              rw [HGA.out.2 rfl, ← HV.out]
              have hno : ¬ (qk = 2 ∨ (qh, qkn) = (kh, kn)) := fun q => by have := HSM.out.2 q; cases this
              exact view_other (fun q => hno (.inl q)) (fun q => hno (.inr q))
          clear hs a5 p5 e0 e1 e2 e3 e4 e5 HP3 HOB3 HQ3 HX HBX HP2 HOB2 HGA HV HSM HXB
          have hfD : ∀ a ∈ absD D', a.ev.length ≤ 1073741824 := fun a ha => by have := (HP5.out.good a ha).ok.few; omega
          have hfG : ∀ a ∈ absD G', a.ev.length ≤ 1073741824 := fun a ha => by have := (HP5.out.goog a ha).ok.few; omega
          have HFD := hid hfD
          have HFG := hid hfG
          clear hfD hfG
          obtain ⟨ac, la, E, mc, q1, q2, q3, q4⟩ : ∃ (ac la : Int) (E : List Ev) (mc : Nat), ackedA (absD D') (kh, kn) = ac ∧ lastA (absD D') (kh, kn) = la ∧ evsA (absD D') (kh, kn) = E ∧ marksA (absD D') (kh, kn) = mc := ⟨_, _, _, _, rfl, rfl, rfl, rfl⟩
          have HD : Hid (ackedA (absD D') (kh, kn) = ac ∧ lastA (absD D') (kh, kn) = la ∧ evsA (absD D') (kh, kn) = E ∧ marksA (absD D') (kh, kn) = mc) := ⟨q1, q2, q3, q4⟩
          have HG : Hid (ackedA (absD G') (kh, kn) = ac ∧ lastA (absD G') (kh, kn) = la ∧ evsA (absD G') (kh, kn) = E ∧ marksA (absD G') (kh, kn) = mc) := by
            unfold ackedA lastA evsA marksA at *
            rw [HV5.out] at q1 q2 q3 q4
            exact ⟨q1, q2, q3, q4⟩
          have hel : E.length ≤ 1073741824 := by
            obtain ⟨x, hx, -, -, x3⟩ := good_k HP5.out.good (by omega) (kh, kn)
            have h1 := hx.ok.few
            rw [← q3, x3]; omega
          clear q1 q2 q3 q4
          have k0 : w5.cell? ⟨kb, 0, none⟩ = some (tkey kh) := HP5.out.key.cell 0 (tkey kh) rfl
          have k1 : w5.cell? ⟨kb, 1, none⟩ = some (.int .i64 kn) := HP5.out.key.cell 1 (.int .i64 kn) rfl
          go_wp2_with fail
          refine (hub_Cursor hb mh D' (kh, kn) _ HP5.out.hub).mono ?_
          rintro e6' w6 ⟨rfl, hb6⟩
          rw [HD.out.1, HD.out.2.1]
          have HP6 := hid (HP5.out.next hb6)
          clear k0 k1 hb6 HP5
          have k0 : w6.cell? ⟨kb, 0, none⟩ = some (tkey kh) := HP6.out.key.cell 0 (tkey kh) rfl
          have k1 : w6.cell? ⟨kb, 1, none⟩ = some (.int .i64 kn) := HP6.out.key.cell 1 (.int .i64 kn) rfl
          go_wp2_with fail
          refine (hub_Cursor gb gh G' (kh, kn) _ HP6.out.hug).mono ?_
          rintro e7' w7 ⟨rfl, hb7⟩
          rw [HG.out.1, HG.out.2.1]
          have HP7 := hid (HP6.out.next hb7)
          clear k0 k1 hb7 HP6
          have k0 : w7.cell? ⟨kb, 0, none⟩ = some (tkey kh) := HP7.out.key.cell 0 (tkey kh) rfl
          have k1 : w7.cell? ⟨kb, 1, none⟩ = some (.int .i64 kn) := HP7.out.key.cell 1 (.int .i64 kn) rfl
          go_upto_region 12 with fail
          go_cut [13, 14] from 61 to 66 (fun s13 s14 wx => ∃ (xa : Option Addr) (xc : Nat) (ya : Option Addr) (yc : Nat), s13 = .slice xa E.length xc ∧ s14 = .slice ya E.length yc ∧ Hid (PairAt w wx kb (kh, kn) (2 * (j + 1)) hb mh D' gb gh G') ∧ Hid (RowAt wx xa (E.flatMap evC)) ∧ Hid (RowAt wx ya (E.flatMap evC)))
          case first =>
            have HPd := hid (HP7.out.next (below_drewN' 1))
            have hQ1 : Calls Tryd.prog 12 #[.pointer (some ⟨hb, 0, none⟩), .agg #[tkey kh, .int .i64 kn]] (w7.drewN 1) _ := hub_Queue hb mh D' (kh, kn) (w7.drewN 1) HPd.out.hub HFD.out
            change Calls Tryd.prog 12 #[.pointer (some ⟨hb, 0, none⟩), .agg #[tkey kh, .int .i64 kn]] w7.drew _ at hQ1
            have HQ1 := hid hQ1
            clear hQ1
            go_region_held3 (fun w' => w'.cell? ⟨kb, 0, none⟩ = some (tkey kh) ∧ w'.cell? ⟨kb, 1, none⟩ = some (.int .i64 kn))
              (first | exact ⟨k0'', k1''⟩ | exact ⟨k0', k1'⟩ | exact ⟨k0, k1⟩ | go_keep)
              (first
                | ((go_at_call 12; with_reducible refine HQ1.out.mono ?_; rintro e8 w8 ⟨v8, rfl, ho8, hb8⟩; rw [HD.out.2.2.1] at ho8; obtain ⟨xa, xc, rfl, hrx, -⟩ := own_addr ho8; have HP8 := hid (HPd.out.next hb8); have HRX := hid hrx; have hQ2 : Calls Tryd.prog 12 #[.pointer (some ⟨gb, 0, none⟩), .agg #[tkey kh, .int .i64 kn]] w8 _ := hub_Queue gb gh G' (kh, kn) w8 HP8.out.hug HFG.out; have HQ2 := hid hQ2; clear hQ2; have k0' : w8.cell? ⟨kb, 0, none⟩ = some (tkey kh) := HP8.out.key.cell 0 (tkey kh) rfl; have k1' : w8.cell? ⟨kb, 1, none⟩ = some (.int .i64 kn) := HP8.out.key.cell 1 (.int .i64 kn) rfl; clear ho8 hb8 hrx))
                | ((go_at_call 12; with_reducible refine HQ2.out.mono ?_; rintro e9 w9 ⟨v9, rfl, ho9, hb9⟩; rw [HG.out.2.2.1] at ho9; obtain ⟨ya, yc, rfl, hry, -⟩ := own_addr ho9; have HP9 := hid (HP8.out.next hb9); have HRX9 := hid (HRX.out.below hb9); have HRY9 := hid hry; have k0'' : w9.cell? ⟨kb, 0, none⟩ = some (tkey kh) := HP9.out.key.cell 0 (tkey kh) rfl; have k1'' : w9.cell? ⟨kb, 1, none⟩ = some (.int .i64 kn) := HP9.out.key.cell 1 (.int .i64 kn) rfl; clear ho9 hb9 hry)))
            all_goals
              clear k0 k1 k0' k1' k0'' k1''
              go_wp2_with fail
              go_meet
              case rel => exact ⟨xa, xc, ya, yc, rfl, rfl, HP9, HRX9, HRY9⟩
          case rest =>
            obtain ⟨xa, xc, ya, yc, rfl, rfl, HP9, HRX, HRY⟩ := hcut
            clear HP7 k0 k1
            generalize hwe : wc = we at *
            clear hwe
            have k0 : we.cell? ⟨kb, 0, none⟩ = some (tkey kh) := HP9.out.key.cell 0 (tkey kh) rfl
            have k1 : we.cell? ⟨kb, 1, none⟩ = some (.int .i64 kn) := HP9.out.key.cell 1 (.int .i64 kn) rfl
            have z1 : (ac != ac) = false := by simp
            have z2 : (la != la) = false := by simp
            have z3 : ((E.length : Int) != (E.length : Int)) = false := by simp
            have z4 : ((mc : Int) != (mc : Int)) = false := by simp
            go_upto_region 13 with fail
            go_cut [90] from 67 to 90 (fun s90 wx => s90 = .bool false ∧ Hid (PairAt w wx kb (kh, kn) (2 * (j + 1)) hb mh D' gb gh G') ∧ Hid (RowAt wx xa (E.flatMap evC)) ∧ Hid (RowAt wx ya (E.flatMap evC)))
            case first =>
              have HPd := hid (HP9.out.next (below_drewN' 1))
              have hQ1 : Calls Tryd.prog 13 #[.pointer (some ⟨hb, 0, none⟩), .agg #[tkey kh, .int .i64 kn]] (we.drewN 1) _ := hub_Watches hb mh D' (kh, kn) (we.drewN 1) HPd.out.hub
              change Calls Tryd.prog 13 #[.pointer (some ⟨hb, 0, none⟩), .agg #[tkey kh, .int .i64 kn]] we.drew _ at hQ1
              have HQ1 := hid hQ1
              clear hQ1
              go_region_held3 (fun w' => w'.cell? ⟨kb, 0, none⟩ = some (tkey kh) ∧ w'.cell? ⟨kb, 1, none⟩ = some (.int .i64 kn))
                (first | exact ⟨k0'', k1''⟩ | exact ⟨k0', k1'⟩ | exact ⟨k0, k1⟩ | go_keep)
                (first
                  | ((go_at_call 13; with_reducible refine HQ1.out.mono ?_; rintro e8 w8 ⟨rfl, hb8⟩; rw [HD.out.2.2.2]; have HP8 := hid (HPd.out.next hb8); have hQ2 : Calls Tryd.prog 13 #[.pointer (some ⟨gb, 0, none⟩), .agg #[tkey kh, .int .i64 kn]] w8 _ := hub_Watches gb gh G' (kh, kn) w8 HP8.out.hug; have HQ2 := hid hQ2; clear hQ2; have HRX8 := hid ((HRX.out.below (below_drewN' 1)).below hb8); have HRY8 := hid ((HRY.out.below (below_drewN' 1)).below hb8); have k0' : w8.cell? ⟨kb, 0, none⟩ = some (tkey kh) := HP8.out.key.cell 0 (tkey kh) rfl; have k1' : w8.cell? ⟨kb, 1, none⟩ = some (.int .i64 kn) := HP8.out.key.cell 1 (.int .i64 kn) rfl; clear hb8))
                  | ((go_at_call 13; with_reducible refine HQ2.out.mono ?_; rintro e9 w9 ⟨rfl, hb9⟩; rw [HG.out.2.2.2]; have HP10 := hid (HP8.out.next hb9); have HRX10 := hid (HRX8.out.below hb9); have HRY10 := hid (HRY8.out.below hb9); have k0'' : w9.cell? ⟨kb, 0, none⟩ = some (tkey kh) := HP10.out.key.cell 0 (tkey kh) rfl; have k1'' : w9.cell? ⟨kb, 1, none⟩ = some (.int .i64 kn) := HP10.out.key.cell 1 (.int .i64 kn) rfl; clear hb9)))
              all_goals
                clear k0 k1 k0' k1' k0'' k1''
                go_wp2_with fail
                go_meet
                case rel => exact ⟨rfl, HP10, HRX10, HRY10⟩
            case rest =>
              obtain ⟨rfl, HP10, HRX10, HRY10⟩ := hcut
              clear HP9 HRX HRY k0 k1 z1 z2 z3 z4
              generalize hwf : wc = wf at *
              clear hwf
              go_wp2_with fail
              go_loopw [93] (fun s93 wr => ∃ i : Nat, s93 = .int .i64 i ∧ i ≤ E.length ∧ Hid (PairAt w wr kb (kh, kn) (2 * (j + 1)) hb mh D' gb gh G') ∧ Hid (RowAt wr xa (E.flatMap evC)) ∧ Hid (RowAt wr ya (E.flatMap evC))) (fun s93 _ => E.length - (intOf s93).toNat)
              case atStart => exact ⟨0, rfl, Nat.zero_le _, HP10, HRX10, HRY10⟩
              case round =>
                clear HP10 HRX10 HRY10
                obtain ⟨i, rfl, hi, HP11, HRX, HRY⟩ := hrel
                by_cases hlt2 : i < E.length
                · obtain ⟨bx, ox, rfl, c0, c1, c2⟩ := ev_cells HRX.out hlt2
                  obtain ⟨bY, oY, rfl, d0, d1, d2⟩ := ev_cells HRY.out hlt2
                  generalize E[i] = e at *
                  obtain ⟨en, ek, ep⟩ := e
                  simp only at c0 c1 c2 d0 d1 d2
                  have heq := ev_neq ⟨en, ek, ep⟩ ⟨en, ek, ep⟩ wr.drew
                  rw [decide_eq_true rfl, Bool.not_true] at heq
                  have HPd := hid (HP11.out.next (Below.refl _ _).drew)
                  have HXd := hid (HRX.out.below (Below.refl wr.heap.size wr).drew)
                  have HYd := hid (HRY.out.below (Below.refl wr.heap.size wr).drew)
                  go_wp2_with fail
                  go_region
                  clear heq c0 c1 c2 d0 d1 d2 HP11 HRX HRY
                  generalize wr.drew = wg at *
                  go_wp2_with fail
                  go_roundw
                  case rel => exact ⟨i + 1, by go_num, by omega, HPd, HXd, HYd⟩
                  case measure => simp [intOf]; omega
                · have hie : i = E.length := by omega
                  clear hlt2
                  subst hie
                  go_wp2_with fail
                  go_roundw
                  case rel => exact ⟨j + 1, D', G', by go_num, by omega, by push_cast; exact HP11, HV5⟩
                  case measure => simp [intOf]; omega
    · have hjl : j = os.length := by omega
      clear hlt
      subst hjl
      have hfew : ∀ a ∈ absD D, a.ev.length ≤ 1073741824 ∧ a.marks.length ≤ 1073741824 := fun a ha => by
        have := (HP.out.good a ha).ok.few; omega
      go_wp2_with fail
      refine (hub_Add hb mh D ([], 0) 1 [47] _ HP.out.hub hfew).mono ?_
      rintro e7 w7 ⟨rfl, D7, h7, m7, a7⟩
      have HB7 := hid (HP.out.below.trans (m7.fresh HP.out.fresh HP.out.below.size).1)
      have had := ap_add (absD D)
      generalize addE (absD D) ([], 0) ([47], 1) = er at *
      clear h7 m7 a7 hfew
      go_wp2_with fail
      refine (awake16 _).mono ?_
      rintro e8 w8 ⟨rfl, hb8⟩
      have HB8 := hid (HB7.out.trans (hb8.mono HB7.out.size))
      clear hb8
      go_wp2_with fail
      go_ret
      exact ⟨rfl, HB8.out⟩
end Go.Proofs.YtjnbflhpboheiaaDoor
