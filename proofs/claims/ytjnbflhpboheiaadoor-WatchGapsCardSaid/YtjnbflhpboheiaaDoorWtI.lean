/-
  WatchGaps: a walk.
-/
import Derived.Test.YtjnbflhpboheiaaDoorWtH
import Derived.Test.YtjnbflhpboheiaaDoorDelW
import Derived.Deep.CutBlock
namespace Go.Proofs.YtjnbflhpboheiaaDoor
open Go.RowKit Go.ChangeMaps
set_option maxRecDepth 20000
set_option linter.unusedVariables false

set_option maxHeartbeats 4000000 in
theorem gaps_walk (k : List UInt8 × Int) (a : Option Addr) (c : Nat) (os : List Wq) (w : World) (hr : RowAt w a (os.flatMap wqC)) (ho : ∀ o ∈ os, WqAt w o) (hl : os.length ≤ 1759218604441) :
    Calls Tryd.prog 4 #[.slice a os.length c, .agg #[tkey k.1, .int .i64 k.2]] w fun e w' => e = .returned (.bool true) ∧ Below w.heap.size w w' := by
  have HR := hid hr
  have HO := hid ho
  clear hr ho
  have HK := hid (ObjAt.new w 28 #[tkey k.1, .int .i64 k.2])
  have HB := hid (below_new (w := w) (.cells #[tkey k.1, .int .i64 k.2] 28))
  go_enter Tryd.func4, Tryd.ntmps4
  go_wp2_with fail
  refine (hub_new _).mono ?_
  rintro e1 w1 ⟨hb, mh, rfl, ht, hb1, hb2, hbw⟩
  have HG : Hid (GapM w w1 hb mh w.heap.size k 0 [] (.slice none 0 0) []) := by
    have hs := HB.out.size
    refine ⟨ht, fun a ha => by simp [absD] at ha, Int.le_refl _, fresh_nil (by omega) (by omega), HB.out.trans (hbw.mono hs), HK.out.below hbw, World.ownsRow_nil _ _ _ _, fun g hg => by simp [Value.ownBlock] at hg⟩
  have HTL : Hid (Told [] (absD []) k) := ⟨rfl, fun e he => by simp [evsA, absD, seekA] at he⟩
  clear ht hbw HK HB
  generalize w.heap.size = kb at *
  go_wp2_with fail
  go_loopw [6, 19] (fun s i wr => ∃ (j : Nat) (D : List Dk) (T : List Ev) (va : Option Addr) (vc : Nat), s = .slice va T.length vc ∧ i = .int .i64 j ∧ j ≤ os.length ∧ Hid (GapM w wr hb mh kb k j D (.slice va T.length vc) T) ∧ Hid (Told T (absD D) k)) (fun _ i _ => os.length - (intOf i).toNat)
  case atStart => exact ⟨0, [], [], none, 0, rfl, rfl, Nat.zero_le _, HG, HTL⟩
  case round =>
    clear HG HTL
    obtain ⟨j, D, T, va, vc, rfl, rfl, hj, HG, HTL⟩ := hrel
    by_cases hlt : j < os.length
    · obtain ⟨b, o, rfl, hcs⟩ := flat_row wqC_len (by decide) (HR.out.below HG.out.below) hlt
      have HQ := hid (HO.out os[j] (List.getElem_mem hlt))
      have e0 : wr.cell? ⟨b, o + j * 6, none⟩ = some (.int .i64 os[j].kind) := hcs 0 _ rfl
      have e1 : wr.cell? ⟨b, o + j * 6 + 1, none⟩ = some (.int .i64 os[j].n) := hcs 1 _ rfl
      have e2 : wr.cell? ⟨b, o + j * 6 + 2, none⟩ = some (tkey os[j].kh) := hcs 2 _ rfl
      have e3 : wr.cell? ⟨b, o + j * 6 + 3, none⟩ = some (.int .i64 os[j].kn) := hcs 3 _ rfl
      have e4 : wr.cell? ⟨b, o + j * 6 + 4, none⟩ = some (tkey os[j].path) := hcs 4 _ rfl
      have e5 : wr.cell? ⟨b, o + j * 6 + 5, none⟩ = some (.slice os[j].ea os[j].es.length os[j].ec) := hcs 5 _ rfl
      clear hcs
      generalize os[j] = q at *
      obtain ⟨qk, qn, qh, qkn, qp, qa, qc, qe⟩ := q
      simp only at e0 e1 e2 e3 e4 e5
      have HOB := hid (ObjAt.new wr 43 #[.int .i64 qk, .int .i64 qn, tkey qh, .int .i64 qkn, tkey qp, .slice qa qe.length qc])
      have HBB := hid (below_new (w := wr) (.cells #[.int .i64 qk, .int .i64 qn, tkey qh, .int .i64 qkn, tkey qp, .slice qa qe.length qc] 43))
      have HG1 := hid (HG.out.next HBB.out)
      have HQ1 := hid (HQ.out.below (HG1.out.below))
      have o0 := HOB.out.cell 0 (.int .i64 qk) rfl
      go_upto_block 2 with fail
      clear e0 e1 e2 e3 e4 e5 HBB HG HQ o0
      generalize wr.heap.size = ob at *
      generalize wr.alloc (.cells #[.int .i64 qk, .int .i64 qn, tkey qh, .int .i64 qkn, tkey qp, .slice qa qe.length qc] 43) = w2 at *
      go_cut [] from 25 to 50 (fun wx => ∃ D', Hid (GapM w wx hb mh kb k (j + 1) D' (.slice va T.length vc) T) ∧ Hid (Half T (absD D') k) ∧ Hid (ObjAt wx ob 43 #[.int .i64 qk, .int .i64 qn, tkey qh, .int .i64 qkn, tkey qp, .slice qa qe.length qc]))
      case first =>
        have HN0 : Hid (¬ HubHas hb mh D ob) := HG1.out.hub.off HOB.out (by decide) (by decide) (by decide)
        have o1 := HOB.out.cell 1 (.int .i64 qn) rfl
        have o2 := HOB.out.cell 2 (tkey qh) rfl
        have o3 := HOB.out.cell 3 (.int .i64 qkn) rfl
        have o4 := HOB.out.cell 4 (tkey qp) rfl
        have o5 := HOB.out.cell 5 (.slice qa qe.length qc) rfl
        have hfew : ∀ a ∈ absD D, a.ev.length ≤ 1073741824 ∧ a.marks.length ≤ 1073741824 := fun a ha => by
          have := (HG1.out.good a ha).ok.few; omega
        by_cases h1 : qk = 1
        · subst h1
          have HFEW := hid hfew
          clear hfew
          go_wp2_with fail
          refine (hub_Add hb mh D (qh, qkn) qn qp _ HG1.out.hub HFEW.out).mono ?_
          rintro e6 w6 ⟨rfl, D6, h6, m6, a6⟩
          have HG6 : Hid (GapM w w6 hb mh kb k (j + 1) D6 (.slice va T.length vc) T) := HG1.out.move h6 m6 (by rw [a6]; exact good_add HG1.out.good (by omega) _ _) (by
            have q1 := abs_len a6
            have q2 := addA_len (absD D) (qh, qkn) (qp, qn)
            have q3 := absD_len D
            have q4 := HG1.out.cnt
            omega)
          have HT6 : Hid (Half T (absD D6) k) := by show Half _ _ _; rw [a6]; exact HTL.out.add HG1.out.good _ _
          have HOB6 := hid (HOB.out.keptS m6.2 HN0.out)
          clear h6 m6 a6 o1 o2 o3 o4 o5
          go_wp2_with fail
          go_meet
          case rel => exact ⟨D6, HG6, HT6, HOB6⟩
        · by_cases h2 : qk = 2
          · subst h2
            have HB0 : Hid (Below w2.heap.size w2 (w2.alloc (.cells #[] 33))) := below_new _
            have o6 : (w2.alloc (.cells #[] 33)).cell? ⟨ob, 5, none⟩ = some (.slice qa qe.length qc) := (HB0.out.cell (p := ⟨ob, 5, none⟩) (lt_of_cell o5)).trans o5
            have hqr := HQ1.out.row
            have hqn := HQ1.out.nil
            have hql := HQ1.out.len
            simp only at hqr hqn hql
            have HQR := hid hqr
            clear hqr hfew o1 o2 o3 o4
            go_wp2_with (at_builtin; refine wpList_app rfl (.tmp 38) (.tmp 40) 22 rfl w2.heap.size 33 Tryd.underlying22 infoEf rfl (by decide) _ 0 [] rfl (World.ownsRow_made w2 #[] 0 (Nat.le_refl _) (Nat.zero_le _) rfl) qa qe.length qc (qe.flatMap efC) rfl (flat_len efC_len qe) (HQR.out.below HB0.out) (efC_one qe) (by unfold maxLen; omega) (by omega) (by simp) hqn ?_; intro v3 w3 ho3 hg3 _; refine Stop.mk ?_)
            have hb3 : Below w2.heap.size w2 w3 := below_app HB0.out (World.ownsRow_made (size := 2) w2 #[] 0 (Nat.le_refl _) (Nat.zero_le _) rfl) hg3 (Nat.le_refl _) (by simp)
            rw [Nat.zero_add, List.nil_append] at ho3
            have HG3 := hid (HG1.out.next hb3)
            have HOB3 := hid (HOB.out.below hb3)
            have HOF3 : Hid (∀ g, v3.ownBlock = some g → ¬ HubHas hb mh D g) := fun g hg => by
              obtain ⟨cur, hc⟩ := own_obj ho3 hg
              exact HG3.out.hub.off hc (by decide) (by decide) (by decide)
            obtain ⟨ra, rc, rfl, hrr, -⟩ := own_addr ho3
            have HRR := hid hrr
            clear ho3 hg3 hb3 hrr o5 o6 hqn
            refine Stop.go ?_
            go_wp2_with fail
            refine (hub_Fire hb mh D ra rc qe j _ HG3.out.hub (fun a ha => (HG3.out.good a ha).ok) (by omega) (by have := HG3.out.cnt; omega) HRR.out (fun ad e _ => HOF3.out ad.block (by rw [e]; rfl)) (by omega)).mono ?_
            rintro e6 w6 ⟨rfl, D6, h6, a6, m6⟩
            have HG6 : Hid (GapM w w6 hb mh kb k (j + 1) D6 (.slice va T.length vc) T) := HG3.out.move h6 m6 (by rw [a6]; exact fun a ha => (good_run _ HG3.out.good a ha).more (by omega)) (by
              have q1 := abs_len a6
              have q2 := runF_length (qe.flatMap fires) (absD D)
              have q3 := absD_len D
              have q4 := HG3.out.cnt
              omega)
            have HT6 : Hid (Half T (absD D6) k) := by show Half _ _ _; rw [a6]; exact (HTL.out.half HG1.out.good).run _
            have HOB6 := hid (HOB3.out.keptS m6.2 HN0.out)
            clear h6 m6 a6
            go_wp2_with fail
            go_meet
            case rel => exact ⟨D6, HG6, HT6, HOB6⟩
          · by_cases h3 : qk = 3
            · subst h3
              have HFEW : Hid (∀ a ∈ absD D, a.ev.length ≤ 1073741824) := fun a ha => (hfew a ha).1
              clear hfew
              go_wp2_with fail
              refine (hub_Ack hb mh D (qh, qkn) qn _ HG1.out.hub HFEW.out).mono ?_
              rintro e6 w6 ⟨rfl, D6, h6, m6, a6⟩
              have HG6 : Hid (GapM w w6 hb mh kb k (j + 1) D6 (.slice va T.length vc) T) := HG1.out.move h6 m6 (by rw [a6]; exact fun a ha => (good_ack HG1.out.good _ _ a ha).more (by omega)) (by
                have q1 := abs_len a6
                have q2 := ackH_len (absD D) (qh, qkn) qn
                have q3 := absD_len D
                have q4 := HG1.out.cnt
                omega)
              have HT6 : Hid (Half T (absD D6) k) := by show Half _ _ _; rw [a6]; exact HTL.out.ack HG1.out.good _ _
              have HOB6 := hid (HOB.out.keptS m6.2 HN0.out)
              clear h6 m6 a6 o1 o2 o3 o4 o5
              go_wp2_with fail
              go_meet
              case rel => exact ⟨D6, HG6, HT6, HOB6⟩
            · have b1 : (qk == 1) = false := beq_eq_false_iff_ne.2 h1
              have b2 : (qk == 2) = false := beq_eq_false_iff_ne.2 h2
              have b3 : (qk == 3) = false := beq_eq_false_iff_ne.2 h3
              clear h1 h2 h3
              have HG6 : Hid (GapM w w2 hb mh kb k (j + 1) D (.slice va T.length vc) T) := HG1.out.move HG1.out.hub (MovedH.refl _ _ _ _) (fun a ha => (HG1.out.good a ha).more (by omega)) (by have := HG1.out.cnt; omega)
              go_wp2_with fail
              go_meet
              case rel => exact ⟨D, HG6, HTL.out.half HG1.out.good, HOB⟩
      case rest =>
        obtain ⟨D', HG2, HH2, HOB2⟩ := hcut
        clear HG1 HTL HOB HQ1
        have k0 := HG2.out.key.cell 0 (tkey k.1) rfl
        have k1 := HG2.out.key.cell 1 (.int .i64 k.2) rfl
        go_wp2_with fail
        refine (hub_Cursor hb mh D' k _ HG2.out.hub).mono ?_
        rintro e7 w7 ⟨rfl, hb7⟩
        have HG7 := hid (HG2.out.next hb7)
        have HOB7 := hid (HOB2.out.below hb7)
        clear k0 k1 hb7 HG2 HOB2
        obtain ⟨ac, hac⟩ : ∃ ac, ackedA (absD D') k = ac := ⟨_, rfl⟩
        obtain ⟨la, hla⟩ : ∃ la, lastA (absD D') k = la := ⟨_, rfl⟩
        obtain ⟨E, hE⟩ : ∃ E, evsA (absD D') k = E := ⟨_, rfl⟩
        have HAC := hid hac
        have HLA := hid hla
        have HE := hid hE
        rw [hac, hla]
        obtain ⟨x, hx, x1, x2, x3⟩ := good_k HG7.out.good (by omega) k
        have hac0 : 0 ≤ ac := by rw [← hac, x2]; exact hx.a0
        have hacl : ac ≤ la := by rw [← hac, ← hla, x1, x2]; exact hx.le
        have hla0 : la ≤ 1759218604441 := by
          have := hx.ok.hi
          rw [← hla, x1]; omega
        have hel : (E.length : Int) = la - ac := by rw [← hE, ← hac, ← hla, x1, x2, x3]; exact hx.len
        have hTl : (T.length : Int) ≤ la := by rw [← hla]; exact HH2.out.1
        have HNUM : Hid (∀ (i : Nat) (h : i < E.length), E[i].n = ac + 1 + i) := by
          show ∀ (i : Nat) (h : i < E.length), E[i].n = ac + 1 + i
          subst hE
          rw [← hac, x2]
          intro i hi
          have := hx.nums i (by rw [← x3]; exact hi)
          simpa only [x3] using this
        clear hac hla hE x1 x2 x3 hx
        have k0 := HG7.out.key.cell 0 (tkey k.1) rfl
        have k1 := HG7.out.key.cell 1 (.int .i64 k.2) rfl
        go_wp2_with fail
        refine (hub_Queue hb mh D' k _ HG7.out.hub (fun a ha => by have := (HG7.out.good a ha).ok.few; omega)).mono ?_
        rintro e8 w8 ⟨v8, rfl, ho8, hb8⟩
        have HG8 := hid (HG7.out.next hb8)
        have HOB8 := hid (HOB7.out.below hb8)
        rw [HE.out] at ho8
        have hap : ∀ g, (Value.slice va T.length vc).ownBlock = some g → v8.ownBlock ≠ some g := fun g hg e => by
          have h1 := (own_lt HG7.out.row g hg).2
          have h2 := (own_lt ho8 g e).1
          omega
        obtain ⟨va8, vc8, rfl, -, -⟩ := own_addr ho8
        have HL8 : Hid (w8.ownsRow 0 38 3 (.slice va8 E.length vc8) E.length (E.flatMap evC)) := owns_base ho8 (Nat.zero_le _)
        have HAP := hid hap
        have hq1 : ((E.length : Int) != la - ac) = false := by rw [hel]; simp
        have hq2 : ¬ la < (T.length : Int) := by omega
        have HEL := hid hel
        clear k0 k1 hb8 HG7 HOB7 ho8 hap hel
        go_wp2_with fail
        clear hq1 hq2
        go_loopw [6, 74] (fun s6 s74 wr => ∃ (i : Nat) (U : List Ev) (va2 : Option Addr) (vc2 : Nat), s6 = .slice va2 U.length vc2 ∧ s74 = .int .i64 i ∧ i ≤ E.length ∧ Hid (GapM w wr hb mh kb k (j + 1) D' (.slice va2 U.length vc2) U) ∧ Hid (Telling T (absD D') k i U) ∧ Hid (wr.ownsRow 0 38 3 (.slice va8 E.length vc8) E.length (E.flatMap evC)) ∧ Hid (∀ g, (Value.slice va2 U.length vc2).ownBlock = some g → (Value.slice va8 E.length vc8).ownBlock ≠ some g) ∧ Hid (ObjAt wr ob 43 #[.int .i64 qk, .int .i64 qn, tkey qh, .int .i64 qkn, tkey qp, .slice qa qe.length qc])) (fun _ s74 _ => E.length - (intOf s74).toNat)
        case atStart => exact ⟨0, T, va, vc, rfl, rfl, Nat.zero_le _, HG8, Telling.start HH2.out, HL8, HAP, HOB8⟩
        case round =>
          clear HG8 HL8 HAP HOB8
          obtain ⟨i, U, va2, vc2, rfl, rfl, hi, HG9, HTG, HL9, HAP, HOB9⟩ := hrel
          by_cases hlt2 : i < E.length
          · obtain ⟨la8, lc8, el8, hrl8, -⟩ := own_addr HL9.out
            simp only [Value.slice.injEq, true_and] at el8
            obtain ⟨rfl, rfl⟩ := el8
            obtain ⟨b8, o8, rfl, c0, c1, c2⟩ := ev_cells hrl8 hlt2
            have hen := HNUM.out i hlt2
            have HOLD : Hid (E[i].n ≤ U.length → U[(E[i].n - 1).toNat]? = some E[i] ∧ Telling T (absD D') k (i + 1) U ∧ 1 ≤ E[i].n) := fun hle => by
              have h := HTG.out.old HH2.out HG9.out.good (by omega) (i := i) (by rw [HE.out]; exact hlt2)
              simp only [HE.out] at h
              exact h hle
            have HNEW : Hid (¬ E[i].n ≤ U.length → Telling T (absD D') k (i + 1) (U ++ [E[i]])) := fun hle => by
              have h := HTG.out.new HH2.out HG9.out.good (by omega) (i := i) (by rw [HE.out]; exact hlt2)
              simp only [HE.out] at h
              exact h hle
            have hul : U.length ≤ 1759218604442 := by
              have h1 := HTG.out.len
              rw [HAC.out] at h1
              have h2 := HEL.out
              omega
            clear hrl8 HTG
            generalize E[i] = e at *
            obtain ⟨en, ek, ep⟩ := e
            simp only at c0 c1 c2 hen HOLD HNEW
            have HEB := hid (ObjAt.new wr 38 #[.int .i64 en, .int .i64 ek, tkey ep])
            have HBB := hid (below_new (w := wr) (.cells #[.int .i64 en, .int .i64 ek, tkey ep] 38))
            have HG10 := hid (HG9.out.next HBB.out)
            have HL10 := hid (owns_below HL9.out HBB.out)
            have HOB10 := hid (HOB9.out.below HBB.out)
            have x0 := HEB.out.cell 0 (.int .i64 en) rfl
            have x1 := HEB.out.cell 1 (.int .i64 ek) rfl
            have x2 := HEB.out.cell 2 (tkey ep) rfl
            have hq4 : (en != ac + 1 + (i : Int)) = false := by rw [hen]; simp
            have hwb : ac + 1 + (i : Int) ≤ 1759218604442 := by have := HEL.out; omega
            have HEN := hid hen
            clear hen
            by_cases hle : en ≤ U.length
            · obtain ⟨q1, q2, q3⟩ := HOLD.out hle
              have HTG2 := hid q2
              clear HOLD HNEW q2
              have hlt3 : (en - 1).toNat < U.length := (List.getElem?_eq_some_iff.1 q1).1
              obtain ⟨ua, uc, eu, hru, -⟩ := own_addr HG10.out.row
              simp only [Value.slice.injEq, true_and] at eu
              obtain ⟨rfl, rfl⟩ := eu
              obtain ⟨b9, o9, rfl, y0, y1, y2⟩ := ev_cells hru hlt3
              have hue : U[(en - 1).toNat] = ⟨en, ek, ep⟩ := by
                rw [List.getElem?_eq_getElem hlt3] at q1; exact Option.some.inj q1
              rw [hue] at y0 y1 y2
              simp only at y0 y1 y2
              rw [show (en - 1).toNat = en.toNat - 1 from by omega] at y0 y1 y2
              have heq := ev_neq ⟨en, ek, ep⟩ ⟨en, ek, ep⟩ (wr.alloc (.cells #[.int .i64 en, .int .i64 ek, tkey ep] 38)).drew
              rw [decide_eq_true rfl, Bool.not_true] at heq
              have HGd := hid (HG10.out.next (Below.refl _ _).drew)
              have HLd := hid (owns_below HL10.out (Below.refl _ _).drew)
              have HOd := hid (HOB10.out.below (Below.refl _ _).drew)
              have hi0 : 0 ≤ en - 1 := by omega
              have hi1 : en - 1 < U.length := by omega
              clear hru q1 hue HG9 HL9 HOB9
              go_wp2_with fail
              go_region
              clear heq y0 y1 y2 x0 x1 x2 c0 c1 c2 HG10 HL10 HOB10 HEB HBB
              generalize (wr.alloc (.cells #[.int .i64 en, .int .i64 ek, tkey ep] 38)).drew = w9 at *
              go_wp2_with fail
              go_roundw
              case rel => exact ⟨i + 1, U, _, _, rfl, by go_num, by omega, HGd, HTG2, HLd, HAP, HOd⟩
              case measure => simp [intOf]; omega
            · have HTG2 := hid (HNEW.out hle)
              clear HOLD HNEW
              have HG11 := hid (HG10.out.next (below_new (.cells #[.int .i64 en, .int .i64 ek, tkey ep] 38)))
              have HL11 := hid (owns_below HL10.out (below_new (.cells #[.int .i64 en, .int .i64 ek, tkey ep] 38)))
              have HOB11 := hid (HOB10.out.below (below_new (.cells #[.int .i64 en, .int .i64 ek, tkey ep] 38)))
              have HRN : Hid (RowAt ((wr.alloc (.cells #[.int .i64 en, .int .i64 ek, tkey ep] 38)).alloc (.cells #[.int .i64 en, .int .i64 ek, tkey ep] 38)) (some ⟨wr.heap.size + 1, 0, none⟩) (evC ⟨en, ek, ep⟩)) := by
                have h := RowAt.new (wr.alloc (.cells #[.int .i64 en, .int .i64 ek, tkey ep] 38)) #[.int .i64 en, .int .i64 ek, tkey ep] 38 (0, 0)
                rw [show (wr.alloc (.cells #[.int .i64 en, .int .i64 ek, tkey ep] 38)).heap.size = wr.heap.size + 1 from by simp] at h
                exact h
              have HONE : Hid (∀ u ∈ evC ⟨en, ek, ep⟩, u.oneCell' = true) := by
                show ∀ u ∈ _, _
                simp [evC, Value.oneCell']
              go_wp2_with (at_builtin; refine wpList_app_own rfl (.tmp 99) (.tmp 101) 35 rfl w.heap.size 38 Tryd.underlying35 infoEv rfl (by decide) (.slice va2 U.length vc2) U.length (U.flatMap evC) (evC ⟨en, ek, ep⟩) ⟨wr.heap.size + 1, 0, none⟩ 1 rfl HG11.out.row rfl rfl HRN.out HONE.out (by unfold maxLen; omega) (by omega) HG11.out.below.size ?_; intro g9 cp9 w9 ho9 hg9 ha9; refine Stop.mk ?_)
              have HG12 := hid (HG11.out.grow (e := ⟨en, ek, ep⟩) ho9 hg9 (fun g hg => by
                have : g9 = g := by simpa [Value.ownBlock] using hg
                rw [← this]; exact ha9))
              have HLen : Hid ((U ++ [(⟨en, ek, ep⟩ : Ev)]).length = U.length + 1) := by show _ = _; simp
              have HL12 := hid (own_keptS HL11.out (KeptS.grown hg9) (fun g hg e => HAP.out g e hg))
              have HOB12 := hid (HOB11.out.keptS (KeptS.grown hg9) (fun e => by
                obtain ⟨cur, hc⟩ := own_obj HG11.out.row e
                exact HOB11.out.ne_obj hc (by decide) rfl))
              have HAP12 : Hid (∀ g, (Value.slice (some ⟨g9, 0, none⟩) (U.length + 1) cp9).ownBlock = some g → (Value.slice (some ⟨b8, o8, none⟩) E.length vc8).ownBlock ≠ some g) := fun g hg e => by
                have hgg : g9 = g := by simpa [Value.ownBlock] using hg
                rcases ha9 with q | q
                · exact HAP.out g9 q (by rw [hgg]; exact e)
                · have h := (own_lt HL11.out g e).2
                  rw [← hgg] at h
                  exact absurd q (Nat.ne_of_lt h)
              clear ho9 hg9 ha9 x0 x1 x2 c0 c1 c2 HG9 HL9 HOB9 HG10 HL10 HOB10 HEB HBB HG11 HL11 HOB11 HRN HONE HAP
              refine Stop.go ?_
              go_wp2_with fail
              go_roundw
              case rel => exact ⟨i + 1, U ++ [⟨en, ek, ep⟩], some ⟨g9, 0, none⟩, cp9, by rw [HLen.out], by go_num, by omega, by rw [HLen.out]; exact HG12, HTG2, HL12, by rw [HLen.out]; exact HAP12, HOB12⟩
              case measure => simp [intOf]; omega
          · have hie : i = E.length := by omega
            clear hlt2
            subst hie
            have HTD : Hid (Told U (absD D') k) := by
              refine Telling.done (T := T) ?_ HH2.out HG9.out.good (by omega)
              rw [HE.out]; exact HTG.out
            have hul : la = (U.length : Int) := by rw [← HLA.out]; exact HTD.out.1.symm
            have hq3 : (la != (U.length : Int)) = false := by rw [hul]; simp
            have HUL := hid hul
            clear hul
            go_wp2_with fail
            go_roundw
            case rel => exact ⟨j + 1, D', U, va2, vc2, rfl, by go_num, by omega, HG9, HTD⟩
            case measure => simp [intOf]; omega
    · have hjl : j = os.length := by omega
      clear hlt
      subst hjl
      go_wp2_with fail
      refine (awake16 _).mono ?_
      rintro e7 w7 ⟨rfl, hb7⟩
      have HB7 := hid (HG.out.below.trans (hb7.mono HG.out.below.size))
      go_wp2_with fail
      go_ret
      exact ⟨rfl, HB7.out⟩
end Go.Proofs.YtjnbflhpboheiaaDoor
