/-
  InterfPlays: an index that was told any commands tells of any other one the sequence number, the dependencies, and the homes, as the document says: for every argument.
-/
import Derived.Test.YtongefjadoidbaaInt15
namespace Go.Proofs.Ytongefjadoidbaa.interfPlays
open Go.RowKit
set_option maxRecDepth 20000
set_option linter.unusedVariables false

set_option maxHeartbeats 4000000 in
theorem walk (nr : Int) (a : Option Addr) (c : Nat) (its : List It) (a2 : Option Addr) (c2 : Nat) (cs : List Cm) (w : World) (hr : RowAt w a (its.flatMap itCells)) (hd : ∀ i ∈ its, (∃ d l c, i.data = .slice d l c) ∧ i.home.length ≤ maxLen) (hr2 : RowAt w a2 (cs.flatMap cmCells)) (hd2 : ∀ i ∈ cs, ∃ d l c, i.data = .slice d l c) (hm : its.length * 72 ≤ 140737488351232) (hm2 : cs.length ≤ 4611686018427387904) :
    Calls Try.prog 5 #[.int .i64 nr, .slice a its.length c, .slice a2 cs.length c2] w fun e w' => e = .returned (.bool true) ∧ Below w.heap.size w w' := by
  have HR := hid hr
  have HD := hid hd
  have HR2 := hid hr2
  have HD2 := hid hd2
  clear hr hd hr2 hd2
  go_enter Try.func5, Try.ntmps5
  by_cases hn : nr < 1 ∨ 7 < nr
  · by_cases hn1 : nr < 1
    · have HN := hid hn
      clear hn
      go_wp2_with fail
      refine (interf_newN nr w HN.out).mono ?_
      rintro e w1 ⟨rfl, rfl⟩
      go_wp2_with fail
      refine (awake10 _).mono ?_
      rintro e w5 ⟨rfl, hb⟩
      have HBE := hid hb
      clear hb
      go_wp2_with fail
      go_ret
      exact ⟨rfl, HBE.out⟩
    · have hn2 : 7 < nr := by omega
      have HN := hid hn
      clear hn
      go_wp2_with fail
      refine (interf_newN nr w HN.out).mono ?_
      rintro e w1 ⟨rfl, rfl⟩
      go_wp2_with fail
      refine (awake10 _).mono ?_
      rintro e w5 ⟨rfl, hb⟩
      have HBE := hid hb
      clear hb
      go_wp2_with fail
      go_ret
      exact ⟨rfl, HBE.out⟩
  · obtain ⟨n, rfl⟩ : ∃ n : Nat, nr = n := ⟨nr.toNat, by omega⟩
    have h1 : 1 ≤ n := by omega
    have h7 : n ≤ 7 := by omega
    clear hn
    have HD1 : Hid (∀ i ∈ its, ∃ d l c, i.data = .slice d l c) := fun i hi => (HD.out i hi).1
    have HDH : Hid (∀ i ∈ goodL n its, i.home.length ≤ maxLen) := fun i hi => (HD.out i (List.mem_filter.1 hi).1).2
    have HDG : Hid (∀ i ∈ goodL n its, ∃ d l c, i.data = .slice d l c) := fun i hi => (HD.out i (List.mem_filter.1 hi).1).1
    have hgl : (goodL n its).length ≤ its.length := List.length_filter_le _ _
    have HGG : Hid (∀ i ∈ goodL n its, GoodIt n i) := fun i hi => of_decide_eq_true (List.mem_filter.1 hi).2
    go_wp2_with fail
    refine (build_yes n a c its w h1 h7 HR.out HD1.out (by omega)).mono ?_
    rintro e w1 ⟨x, dp, v, rfl, hx, hdp, -, -, -, hb⟩
    have HX := hid hx
    have HDP := hid hdp
    have HB := hid hb
    have HR2' := hid (HR2.out.below hb)
    have hlw : w.heap.size ≤ w1.heap.size := hb.size
    clear hx hdp hb HR HD HD1 HR2
    generalize goodL n its = S at *
    go_wp2_with fail
    generalize hb2 : w1.heap.size = b2 at *
    have HB2 := hid hb2
    clear hb2
    go_loopw [52] (fun s wr => ∃ j : Nat, s = .int .i64 j ∧ j ≤ cs.length ∧ Hid (Below b2 w1 wr)) (fun s _ => cs.length - (intOf s).toNat)
    case atStart => exact ⟨0, rfl, Nat.zero_le _, Below.refl _ _⟩
    case round =>
      obtain ⟨j, rfl, hj, HC⟩ := hrel
      have hbw : b2 ≤ wr.heap.size := by have := HC.out.size; have := HB2.out; omega
      have hbl : Below w1.heap.size w1 wr := by rw [HB2.out]; exact HC.out
      have HXw := hid (HX.out.below hbl)
      have HPw := hid (HDP.out.below hbl)
      have HRw := hid (HR2'.out.below hbl)
      clear hbl
      by_cases hlt : j < cs.length
      · obtain ⟨b, o, rfl, r0, r1, r2⟩ := row_cm HRw.out hlt
        have HDj := hid (HD2.out cs[j] (List.getElem_mem hlt))
        generalize cs[j] = cm at *
        obtain ⟨k, h, da⟩ := cm
        obtain ⟨d1, d2, d3, hde⟩ := HDj.out
        dsimp only at hde r0 r1 r2
        subst hde
        clear HDj
        generalize wr = wp at *
        go_upto_region 10 with fail
        have hb4 := below_new (w := wp) (.cells #[.int .i64 k, .string ⟨h.toArray⟩, .slice d1 d2 d3] 25)
        have HI := hid (ObjAt.new wp 25 #[.int .i64 k, .string ⟨h.toArray⟩, .slice d1 d2 d3])
        have HXq := hid (HXw.out.below hb4)
        have HPq := hid (HPw.out.below hb4)
        have HCq := hid (HC.out.trans (hb4.mono hbw))
        have hsq : b2 ≤ (wp.alloc (.cells #[.int .i64 k, .string ⟨h.toArray⟩, .slice d1 d2 d3] 25)).heap.size := Nat.le_trans hbw hb4.size
        generalize wp.alloc (.cells #[.int .i64 k, .string ⟨h.toArray⟩, .slice d1 d2 d3] 25) = wq at *
        generalize wp.heap.size = kb at *
        clear hb4 r0 r1 r2 HXw HPw HRw HC
        have k0 := HI.out.cell 0 (.int .i64 k) rfl
        have k1 := HI.out.cell 1 (.string ⟨h.toArray⟩) rfl
        have k2 := HI.out.cell 2 (.slice d1 d2 d3) rfl
        go_wp2_with fail
        refine (idx_attr3 x n S k h (.slice d1 d2 d3) wq HXq.out).mono ?_
        rintro e w3 ⟨a3, c3, rfl, hv3, hou, hb⟩
        have HV3 := hid hv3
        have HOU := hid hou
        have HI3 := hid (HI.out.below hb)
        have HP3 := hid (HPq.out.below hb)
        have HC3 := hid (HCq.out.trans (hb.mono hsq))
        have hs3 : b2 ≤ w3.heap.size := Nat.le_trans hsq hb.size
        have hqb : wq.heap.size = wq.heap.size := rfl
        generalize wq.heap.size = bq at *
        clear hv3 hou hb HI HPq HCq HXq k0 k1 k2
        have k0 := HI3.out.cell 0 (.int .i64 k) rfl
        have k1 := HI3.out.cell 1 (.string ⟨h.toArray⟩) rfl
        have k2 := HI3.out.cell 2 (.slice d1 d2 d3) rfl
        go_wp2_with fail
        refine (ref_attr dp v n S k h (.slice d1 d2 d3) w3 HP3.out HGG.out HDG.out h1 h7 (by omega)).mono ?_
        rintro e w4 ⟨v4, rfl, hv4, hb⟩
        have HV4 := hid hv4
        have HV3' := hid (HV3.out.below hb)
        have HOU4 := hid (HOU.out.below hb)
        have HC4 := hid (HC3.out.trans (hb.mono hs3))
        have hs4 : b2 ≤ w4.heap.size := Nat.le_trans hs3 hb.size
        have HLE := hid (Nat.le_trans (atL_len' n k h S) h7)
        clear hv4 hb HV3 HOU HC3 HI3 HP3 k0 k1 k2
        generalize atL n k h S = LL at *
        generalize atS k h S = sq at *
        generalize atE k = er at *
        have he1 : (sq != sq) = false := by simp
        have he2 : (er != er) = false := by simp
        have he3 : (sq == sq) = true := by simp
        have he4 : (er == er) = true := by simp
        go_wp2_with fail
        refine (same_yes (.slice a3 LL.length c3) v4 LL w4 HV3'.out HV4.out (by have := HLE.out; omega)).mono ?_
        rintro e w5 ⟨rfl, hb⟩
        have HOU5 := hid (HOU4.out.below hb)
        have HC5 := hid (HC4.out.trans (hb.mono hs4))
        have hs5 : b2 ≤ w5.heap.size := Nat.le_trans hs4 hb.size
        clear hb HV3' HV4 HOU4 HC4
        have hml : LL.length ≤ 7 := HLE.out
        go_wp2_with fail
        clear he1 he2 he3 he4
        generalize LL.length = m at *
        have hqb : b2 ≤ bq := hsq
        generalize wr = wz at *
        go_loopw [86] (fun s wr => ∃ i : Nat, s = .int .i64 i ∧ i ≤ m ∧ Hid (Ours wr bq a3 m) ∧ Hid (Below b2 w1 wr)) (fun s _ => m - (intOf s).toNat)
        case atStart => exact ⟨0, rfl, Nat.zero_le _, HOU5, HC5⟩
        case round =>
          clear HOU5 HC5
          obtain ⟨i, rfl, hi, HO, HC⟩ := hrel
          have hbw2 : b2 ≤ wr.heap.size := by have := HC.out.size; have := HB2.out; omega
          by_cases hlt2 : i < m
          · rcases HO.out with h0 | ⟨g, cu, rfl, ho, hcs, hbg⟩
            · omega
            obtain ⟨v0, hv0⟩ : ∃ v0, cu[i]? = some v0 := ⟨cu[i], by rw [Array.getElem?_eq_getElem]⟩
            have c0 := ho.cell i v0 hv0
            have f0 := ho.frozen i
            have HS := hid (ho.set i (.int .i64 (-1)))
            have HKS := hid (KeptS.set (S := fun q => q = g) wr ⟨g, i, none⟩ (.int .i64 (-1)) rfl)
            have HC2 : Hid (Below b2 w1 (wr.setCell ⟨g, i, none⟩ (.int .i64 (-1)))) := HC.out.trans (HKS.out.below (fun q hq => by omega) hbw2)
            have HO2 : Hid (Ours (wr.setCell ⟨g, i, none⟩ (.int .i64 (-1))) bq (some ⟨g, 0, none⟩) m) := .inr ⟨g, _, rfl, HS.out, by simpa using hcs, hbg⟩
            clear ho hv0 HO HS HKS
            go_wp2_with fail
            go_roundw
            case rel => exact ⟨i + 1, by go_num, by omega, HO2, HC2⟩
            case measure => simp [intOf]; omega
          · have hie : i = m := by omega
            go_wp2_with fail
            go_roundw
            case rel => exact ⟨j + 1, by go_num, by omega, HC⟩
            case measure => simp [intOf]; omega
      · have hje : j = cs.length := by omega
        have HBw := hid (HB.out.trans (HC.out.mono (by have := HB2.out; omega)))
        have hww : w.heap.size ≤ wr.heap.size := HBw.out.size
        have HHL : Hid (x.hs.length ≤ its.length) := Nat.le_trans (hs_len HXw.out) hgl
        have HHS : Hid (homesD S = sortL (x.hs.map (·.1))) := homes_sorted HXw.out.g.nokeys HXw.out.keys
        clear HC HRw hje
        go_wp2_with fail
        refine (idx_homes x n S wr HXw.out HDH.out (by have := HHL.out; omega)).mono ?_
        rintro e w6 ⟨v6, rfl, hv6, hb⟩
        have HV6 := hid hv6
        have HP6 := hid (HPw.out.below hb)
        have HB6 := hid (HBw.out.trans (hb.mono hww))
        have hs6 : w.heap.size ≤ w6.heap.size := HB6.out.size
        clear hv6 hb HXw HPw HBw
        go_wp2_with fail
        refine (ref_homes dp v n S w6 HP6.out (by omega)).mono ?_
        rintro e w7 ⟨v7, rfl, hv7, hb⟩
        rw [HHS.out] at hv7
        have HV7 := hid hv7
        have HV6' := hid (HV6.out.below hb)
        have HB7 := hid (HB6.out.trans (hb.mono hs6))
        have hs7 : w.heap.size ≤ w7.heap.size := HB7.out.size
        have HSL : Hid ((sortL (x.hs.map (·.1))).length ≤ 4611686018427387904) := by
          show _ ≤ _
          rw [sortL_len, List.length_map]; have := HHL.out; omega
        clear hv7 hb HP6 HB6 HV6
        go_wp2_with fail
        refine (same_texts_yes v6 v7 _ w7 HV6'.out HV7.out HSL.out).mono ?_
        rintro e w8 ⟨rfl, hb⟩
        have HB8 := hid (HB7.out.trans (hb.mono hs7))
        have hs8 : w.heap.size ≤ w8.heap.size := HB8.out.size
        clear hb HB7 HV6' HV7
        go_wp2_with fail
        refine (awake10 _).mono ?_
        rintro e w9 ⟨rfl, hb⟩
        have HB9 := hid (HB8.out.trans (hb.mono hs8))
        clear hb HB8
        go_wp2_with fail
        go_ret
        exact ⟨rfl, HB9.out⟩
def T : Ty := .pair (.int .i64) (.pair (.slice TItem) (.pair (.slice TCmd) .unit))
theorem walk' (W : World) (vs : List Value) (el : T.El) (hr : ArgsRd W T vs el) (hf : Fit T el) : Calls Try.prog 5 vs.toArray W fun e w' => e = .returned (.bool true) ∧ Below W.heap.size W w' := by
  obtain ⟨v1, r1, cs1, rfl, hv1, hx1, v2, r2, cs2, rfl, hv2, hx2, v3, r3, cs3, rfl, hv3, hx3, rfl⟩ := hr
  obtain ⟨rfl, -⟩ := hx1
  obtain rfl : v1 = .int .i64 el.fst := by simpa [ValOf, eq_comm] using hv1
  obtain rfl : cs2 = [v2] := hv2
  obtain rfl : cs3 = [v3] := hv3
  obtain ⟨a, c, its, rfl, hl, hr, hd, -, -, -⟩ := items_of2 hx2
  obtain ⟨a2, c2, cs, rfl, hl2, hr2, hd2, hc2, hm2⟩ := cmds_of hx3
  have f1 : List.length el.snd.fst * 72 ≤ 140737488351232 := hf.2.1.1
  have f2 : List.length el.snd.snd.fst * 48 ≤ 140737488351232 := hf.2.2.1.1
  exact walk el.fst a c its a2 c2 cs W hr hd hr2 hd2 (by omega) (by omega)

theorem own : ownKnob Try.prog.godebug = none := by kernel_rfl
theorem laidOut : laidOutB Try.prog = true := by kernel_rfl

set_option maxRecDepth 100000 in
theorem lifted (os : Os) (started : os.Started) (H : Type) (enc : TypeId × Value → H) :
    ReturnsInHanded {} Try.checked os 5 .any (Rows.interfPlaysSpec.pre6 enc Try.prog Try.f5 Rows.interfPlaysRow.domain false) (Rows.interfPlaysSpec.post enc Try.prog Try.f5 false true false false) := by
  refine returnsInHanded_of_change_sized (C := Try.checked) own started (by kernel_rfl) Try.func5
    (ChangeSpec.witness6 (enc := enc) (C := Try.checked) false ⟨#[], #[.int .i64 0, .slice none 0 0, .slice none 0 0], []⟩ 16 (by kernel_rfl) (by kernel_rfl) (by kernel_rfl) (by kernel_rfl)) ?_
  intro W base args ds gs before hval hW _ hsz _
  exact law_said T (by kernel_rfl) laidOut (by kernel_rfl) rfl rfl Try.underlying4 (fun ds h => by
    match ds, h with
    | [d0, d1, d2], _ => rfl) walk' W base args ds gs before hval hW hsz

theorem over : Rows.interfPlaysRow.holds Try.pinned (OpenSpec.ofChange Rows.interfPlaysSpec) :=
  OpenClaim.holds_of_wide 5 Try.f5 rfl rfl rfl rfl rfl rfl rfl ⟨rfl, rfl, rfl, rfl, rfl⟩ rfl rfl rfl rfl rfl (by kernel_rfl) Try.func5 (by kernel_rfl)
    (of_decide_eq_true (by kernel_rfl)) (by unfold Func.isWrapper; first | (rw [if_pos (by decide +kernel)]; kernel_rfl) | (rw [if_neg (by decide +kernel)]; exact ⟨rfl, rfl⟩))
    (fun os started H enc _ => lifted os started H enc)

theorem proved : Rows.InterfPlaysSaid := over
#print axioms proved
end Go.Proofs.Ytongefjadoidbaa.interfPlays
