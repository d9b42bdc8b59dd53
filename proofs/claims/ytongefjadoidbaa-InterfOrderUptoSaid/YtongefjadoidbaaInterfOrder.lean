/-
  InterfOrder: in which order commands were added, and how often, makes no difference: for every argument of at most 1048576 values.
-/
import Derived.Test.YtongefjadoidbaaIntArg2
import Derived.Test.YtongefjadoidbaaInt11
namespace Go.Proofs.Ytongefjadoidbaa.interfOrder
open Go.RowKit
set_option maxRecDepth 20000
set_option linter.unusedVariables false

theorem len_sub {l m : List (List UInt8)} (hn : l.Nodup) (hs : ∀ x ∈ l, x ∈ m) : l.length ≤ m.length := by
  induction l generalizing m with
  | nil => simp
  | cons a t ih =>
    obtain ⟨h1, h2⟩ := List.nodup_cons.1 hn
    have ha := hs a (List.mem_cons_self ..)
    have := ih (m := m.erase a) h2 (fun x hx => (List.mem_erase_of_ne (by rintro rfl; exact h1 hx)).2 (hs x (List.mem_cons_of_mem _ hx)))
    rw [List.length_erase_of_mem ha] at this
    have := List.length_pos_of_mem ha
    simp only [List.length_cons]; omega
theorem hs_len {w : World} {x : IdxP} {n : Nat} {S : List It} (h : IdxAt w x n S) : x.hs.length ≤ S.length := by
  have := len_sub (m := S.map (·.home)) h.g.nokeys (fun k hk => by
    obtain ⟨i, hi, -, he⟩ := (h.keys k).1 hk
    exact List.mem_map.2 ⟨i, hi, he⟩)
  simpa using this
theorem hs_perm {w w' : World} {x y : IdxP} {n : Nat} {S S' : List It} (h : IdxAt w x n S) (h' : IdxAt w' y n S') (hS : ∀ i, i ∈ S ↔ i ∈ S') : (x.hs.map (·.1)).Perm (y.hs.map (·.1)) := by
  refine (List.perm_ext_iff_of_nodup h.g.nokeys h'.g.nokeys).2 fun k => ?_
  rw [h.keys, h'.keys]
  constructor
  · rintro ⟨i, hi, r⟩; exact ⟨i, (hS i).1 hi, r⟩
  · rintro ⟨i, hi, r⟩; exact ⟨i, (hS i).2 hi, r⟩

/-- What Attr answers. -/
def atS (k : Int) (h : List UInt8) (S : List It) : Int := if KindOk k then seqMax (interL k h S) + 1 else 0
def atL (n : Nat) (k : Int) (h : List UInt8) (S : List It) : List Int := if KindOk k then depsL n (interL k h S) else []
def atE (k : Int) : Int := if KindOk k then 0 else 100
theorem inter_mem (k : Int) (h : List UInt8) {S S' : List It} (hS : ∀ i, i ∈ S ↔ i ∈ S') : ∀ i, i ∈ interL k h S ↔ i ∈ interL k h S' := fun i => by
  unfold interL
  rw [List.mem_filter, List.mem_filter, hS i]
theorem atS_same (k : Int) (h : List UInt8) {S S' : List It} (hS : ∀ i, i ∈ S ↔ i ∈ S') : atS k h S = atS k h S' := by
  unfold atS; rw [seqMax_same (inter_mem k h hS)]
theorem atL_same (n : Nat) (k : Int) (h : List UInt8) {S S' : List It} (hS : ∀ i, i ∈ S ↔ i ∈ S') : atL n k h S = atL n k h S' := by
  unfold atL; rw [depsL_same n (inter_mem k h hS)]
theorem atL_len (n : Nat) (k : Int) (h : List UInt8) (S : List It) : (atL n k h S).length ≤ n := by
  unfold atL; split
  · rw [depsL_len]; exact Nat.le_refl _
  · exact Nat.zero_le _
theorem idx_attr2 (x : IdxP) (n : Nat) (S : List It) (k : Int) (h : List UInt8) (d : Value) (w : World) (hx : IdxAt w x n S) :
    Calls Try.prog 9 #[.pointer (some ⟨x.ib, 0, none⟩), .agg #[.int .i64 k, .string ⟨h.toArray⟩, d]] w fun e w' => ∃ v, e = .returned (.tuple #[.int .i64 (atS k h S), v, .int .i64 (atE k)]) ∧ IsInts w' v (atL n k h S) ∧ Below w.heap.size w w' := by
  refine (idx_attr x n S k h d w hx).mono ?_
  rintro e w' ⟨hb, ⟨hk, rfl⟩ | ⟨hk, v, rfl, hv⟩⟩
  · refine ⟨.slice none 0 0, ?_, ?_, hb⟩
    · unfold atS atE; rw [if_neg hk, if_neg hk]
    · unfold atL; rw [if_neg hk]
      exact ⟨none, 0, rfl, by intro j v hv; simp at hv, fun _ => rfl, Nat.le_refl _, Nat.zero_le _⟩
  · refine ⟨v, ?_, ?_, hb⟩
    · unfold atS atE; rw [if_pos hk, if_pos hk]
    · unfold atL; rw [if_pos hk]; exact hv.ints
theorem good_rev (n : Nat) (its : List It) : ∀ i, i ∈ goodL n its ↔ i ∈ goodL n (its.reverse ++ its) := fun i => by
  unfold goodL
  rw [List.mem_filter, List.mem_filter, List.mem_append, List.mem_reverse]
  simp
theorem flat_len (its : List It) : (its.flatMap itCells).length = its.length * 6 := by
  induction its with
  | nil => rfl
  | cons i l ih => rw [List.flatMap_cons, List.length_append, ih, List.length_cons, show (itCells i).length = 6 from rfl, Nat.add_mul]; omega
theorem flat_one {its : List It} (hd : ∀ i ∈ its, (∃ d l c, i.data = .slice d l c) ∧ i.home.length ≤ maxLen) : ∀ u ∈ its.flatMap itCells, u.oneCell' = true := by
  intro u hu
  obtain ⟨i, hi, hu⟩ := List.mem_flatMap.1 hu
  obtain ⟨⟨d, l, c, e⟩, -⟩ := hd i hi
  unfold itCells at hu
  rw [e] at hu
  simp only [List.mem_cons, List.not_mem_nil, or_false] at hu
  rcases hu with rfl | rfl | rfl | rfl | rfl | rfl <;> rfl

set_option maxHeartbeats 4000000 in
theorem walk (nr : Int) (a : Option Addr) (c : Nat) (its : List It) (ck : Int) (ch : List UInt8) (cd : Value) (w : World) (hr : RowAt w a (its.flatMap itCells)) (hd : ∀ i ∈ its, (∃ d l c, i.data = .slice d l c) ∧ i.home.length ≤ maxLen) (hcd : ∃ d l c, cd = .slice d l c) (hc0 : a = none → c = 0) (hm : its.length ≤ 1048576) :
    Calls Try.prog 6 #[.int .i64 nr, .slice a its.length c, .agg #[.int .i64 ck, .string ⟨ch.toArray⟩, cd]] w fun e w' => e = .returned (.bool true) ∧ Below w.heap.size w w' := by
  have HR := hid hr
  have HD := hid hd
  have HC0 := hid hc0
  obtain ⟨q1, q2, q3, rfl⟩ := hcd
  clear hr hd hc0
  go_enter Try.func6, Try.ntmps6
  go_upto_region 1 with fail
  have hb1 := below_new (w := w) (.cells #[.int .i64 ck, .string ⟨ch.toArray⟩, .slice q1 q2 q3] 25)
  have HK := hid (ObjAt.new w 25 #[.int .i64 ck, .string ⟨ch.toArray⟩, .slice q1 q2 q3])
  have HB := hid hb1
  have hlw : Hid (w.heap.size < (w.alloc (.cells #[.int .i64 ck, .string ⟨ch.toArray⟩, .slice q1 q2 q3] 25)).heap.size) := HK.out.lt
  replace HR := hid (HR.out.below hb1)
  generalize w.alloc (.cells #[.int .i64 ck, .string ⟨ch.toArray⟩, .slice q1 q2 q3] 25) = W at *
  generalize hcb : w.heap.size = cb at *
  have HCB := hid hcb
  clear hcb hb1
  go_wp2_with fail
  generalize hb2 : W.heap.size = b2 at *
  have HB2 := hid hb2
  clear hb2
  go_loopw [7, 23] (fun dv s wr => ∃ j : Nat, s = .int .i64 j ∧ j ≤ its.length ∧ Hid (wr.ownsRow b2 39 6 dv j ((its.reverse.take j).flatMap itCells)) ∧ Hid (Below b2 W wr)) (fun _ s _ => its.length - (intOf s).toNat)
  case atStart => exact ⟨0, rfl, Nat.zero_le _, by simp; exact World.ownsRow_nil _ _ _ _, Below.refl _ _⟩
  case round =>
    obtain ⟨j, rfl, hj, HO, HC⟩ := hrel
    have hbw : b2 ≤ wr.heap.size := by have := HC.out.size; have := HB2.out; omega
    have hblw : Below W.heap.size W wr := by rw [HB2.out]; exact HC.out
    by_cases hlt : j < its.length
    · obtain ⟨k, hk⟩ : ∃ k, its.length = k + j + 1 := ⟨its.length - 1 - j, by omega⟩
      have hkl : k < its.length := by omega
      obtain ⟨b, o, rfl, r0, r1, r2, r3, r4, r5⟩ := row_it (HR.out.below hblw) hkl
      have HDj := hid (HD.out its[k] (List.getElem_mem hkl)).1
      have HTK : Hid (its.reverse.take (j + 1) = its.reverse.take j ++ [its[k]]) := by
        show _ = _
        rw [List.take_succ_eq_append_getElem (by rw [List.length_reverse]; exact hlt), List.getElem_reverse]
        have : its.length - 1 - j = k := by omega
        simp only [this]
      have hki : (its.length : Int) - 1 - (j : Int) = (k : Int) := by omega
      clear hblw
      generalize its.reverse.take j = D at *
      generalize its[k] = it at *
      obtain ⟨ki, ho, da, re, nu, se⟩ := it
      obtain ⟨d1, d2, d3, hde⟩ := HDj.out
      dsimp only at hde r0 r1 r2 r3 r4 r5
      subst hde
      clear HDj
      obtain ⟨z, hinf, hzs⟩ := infoItem
      have HINF := hid hinf
      have HZS := hid hzs
      have HDK := hid (owns_new HO.out)
      clear hinf hzs
      have hi1 : (0 : Int) ≤ (k : Int) := by omega
      have hi2 : (k : Int) < (its.length : Int) := by omega
      clear hk hkl
      go_wp2_with (at_builtin; refine wpList_app rfl (.tmp 26) (.tmp 35) 22 rfl b2 39 Try.underlying22 HINF.out HZS.out (by decide) _ j (D.flatMap itCells) rfl (HO.out.alloc _) (some ⟨wr.heap.size, 0, none⟩) 1 1 (itCells ⟨ki, ho, .slice d1 d2 d3, re, nu, se⟩) rfl rfl (RowAt.new _ _ _ _) (by simp [itCells, Value.oneCell']) (by unfold maxLen; omega) (by omega) (by simp; omega) (by simp) ?_; intro v7 w7 ho7 hg7 _; refine Stop.mk ?_)
      have hb7 := below_new (w := wr) (.cells #[.int .i64 ki, .string ⟨ho.toArray⟩, .slice d1 d2 d3, .int .i64 re, .int .i64 nu, .int .i64 se] 39)
      have HC7 : Hid (Below b2 W w7) := (HC.out.trans (hb7.mono hbw)).trans ((Below.refl b2 _).grown hg7 (by have := hb7.size; omega) (fun k hk => by
        have := (HO.out.lt k hk).1
        omega))
      have HO7 : Hid (w7.ownsRow b2 39 6 v7 (j + 1) ((D ++ [It.mk ki ho (.slice d1 d2 d3) re nu se]).flatMap itCells)) := by
        show w7.ownsRow _ _ _ _ _ _
        rw [List.flatMap_append]; simpa using ho7
      clear ho7 hg7 hb7 HINF HZS r0 r1 r2 r3 r4 r5
      refine Stop.go ?_
      go_wp2_with fail
      go_roundw
      case rel => exact ⟨j + 1, by go_num, by omega, by rw [HTK.out]; exact HO7, HC7⟩
      case measure => simp [intOf]; omega
    · have hje : j = its.length := by omega
      have hjr : its.reverse.take j = its.reverse := by rw [hje, ← List.length_reverse, List.take_length]
      rw [hjr, hje] at HO
      clear hjr hje
      have HKw := hid (HK.out.below hblw)
      have HRw := hid (HR.out.below hblw)
      have HBw := hid (HB.out.trans (hblw.mono (by have := HB2.out; have := hlw.out; omega)))
      have hcw : cb < wr.heap.size := by have := hlw.out; omega
      clear hblw HC HB HR HK
      obtain ⟨z, hinf, hzs⟩ := infoItem
      have HINF := hid hinf
      have HZS := hid hzs
      clear hinf hzs
      have HOWN := hid (owns_new HO.out)
      have HLO : Hid (∀ g, u7.ownBlock = some g → b2 ≤ g) := fun g hg => (HO.out.lt g hg).1
      by_cases hn : nr < 1 ∨ 7 < nr
      · go_wp2_with fail
        refine (build_no nr _ _ hn).mono ?_
        rintro e w1 ⟨rfl, rfl⟩
        have HN := hid hn
        clear hn
        go_wp2_with (at_builtin; refine wpList_app rfl (.tmp 47) (.tmp 48) 22 rfl b2 39 Try.underlying22 HINF.out HZS.out (by decide) _ its.length (its.reverse.flatMap itCells) rfl (HO.out) a its.length c (its.flatMap itCells) rfl (flat_len its) (HRw.out) (flat_one HD.out) (by unfold maxLen; omega) (by omega) (by omega) HC0.out ?_; intro v8 w8 ho8 hg8 _; refine Stop.mk ?_)
        have HG8 : Hid (Below b2 wr w8) := (Below.refl b2 _).grown hg8 (by omega) (fun k hk => by
          have := (HO.out.lt k hk).1
          omega)
        have hcw8 : cb ≤ w8.heap.size := by have := HG8.out.size; omega
        obtain ⟨a8, c8, hv8, -⟩ := owns_row ho8
        subst hv8
        have hn := HN.out
        have hlb := hlw.out
        clear ho8 hg8 HINF HZS
        refine Stop.go ?_
        replace HBw := hid (HBw.out.trans ((HG8.out.mono (by omega))))
        go_wp2_with fail
        refine (build_no nr _ _ hn).mono ?_
        rintro e w2 ⟨rfl, rfl⟩
        by_cases hn1 : nr < 1
        · clear hn
          go_wp2_with fail
          refine (awake10 _).mono ?_
          rintro e w5 ⟨rfl, hb⟩
          replace HBw := hid (HBw.out.trans (hb.mono hcw8))
          clear hb
          go_wp2_with fail
          go_ret
          exact ⟨rfl, by rw [HCB.out]; exact HBw.out⟩
        · have hn2 : 7 < nr := by omega
          clear hn
          go_wp2_with fail
          refine (awake10 _).mono ?_
          rintro e w5 ⟨rfl, hb⟩
          replace HBw := hid (HBw.out.trans (hb.mono hcw8))
          clear hb
          go_wp2_with fail
          go_ret
          exact ⟨rfl, by rw [HCB.out]; exact HBw.out⟩
      · obtain ⟨n, rfl⟩ : ∃ n : Nat, nr = n := ⟨nr.toNat, by omega⟩
        have h1 : 1 ≤ n := by omega
        have h7 : n ≤ 7 := by omega
        clear hn
        go_wp2_with fail
        have HD1 : Hid (∀ i ∈ its, ∃ d l c, i.data = .slice d l c) := fun i hi => (HD.out i hi).1
        refine (build_yes n a c its wr h1 h7 HRw.out HD1.out (by omega)).mono ?_
        rintro e w1 ⟨x, dp, v, rfl, hx, -, hxl, -, -, hb⟩
        have HX := hid hx
        have HXL : Hid (∀ k, x.Has k → wr.heap.size ≤ k) := hxl
        have HK1 := hid (HKw.out.below hb)
        have HR1 := hid (HRw.out.below hb)
        have HO1 := hid (owns_below HO.out hb)
        have HB1 := hid (HBw.out.trans (hb.mono (by omega)))
        have hs1 : wr.heap.size ≤ w1.heap.size := hb.size
        clear hx hxl hb HO HKw HRw HBw
        go_wp2_with (at_builtin; refine wpList_app rfl (.tmp 47) (.tmp 48) 22 rfl b2 39 Try.underlying22 HINF.out HZS.out (by decide) _ its.length (its.reverse.flatMap itCells) rfl (HO1.out) a its.length c (its.flatMap itCells) rfl (flat_len its) (HR1.out) (flat_one HD.out) (by unfold maxLen; omega) (by omega) (by omega) HC0.out ?_; intro v8 w8 ho8 hg8 _; refine Stop.mk ?_)
        have HK8 := hid (HK1.out.keptS (KeptS.of_grown hg8) (fun e => by have := HLO.out _ e.symm; have := hlw.out; omega))
        have HX8 := hid (HX.out.keptS (KeptS.of_grown hg8) (fun k hk e => by have := HXL.out k hk; have := HOWN.out k e.symm; omega))
        have HB8 := hid (HB1.out.trans (((Below.refl b2 _).grown hg8 (by omega) (fun k hk => by
          have := (HO1.out.lt k hk).1
          omega)).mono (Nat.le_of_lt hlw.out)))
        have hs8 : wr.heap.size ≤ w8.heap.size := Nat.le_trans hs1 hg8.size
        obtain ⟨a8, c8, hv8, hr8, -⟩ := owns_row ho8
        subst hv8
        have HR8 := hid hr8
        clear ho8 hg8 hr8 HINF HZS HX HXL HK1 HR1 HO1 HB1 HOWN HLO
        refine Stop.go ?_
        have hla : (its.reverse ++ its).length = its.length + its.length := by simp
        have HFA : Hid (its.reverse.flatMap itCells ++ its.flatMap itCells = (its.reverse ++ its).flatMap itCells) := by show _ = _; rw [List.flatMap_append]
        rw [HFA.out] at HR8
        have HDA : Hid (∀ i ∈ its.reverse ++ its, ∃ d l c, i.data = .slice d l c) := fun i hi => by
          rw [List.mem_append, List.mem_reverse] at hi
          exact HD1.out i (by rcases hi with h | h <;> exact h)
        have HGS := hid (good_rev n its)
        clear HFA
        rw [← hla]
        have hlm : (its.reverse ++ its).length ≤ 2097152 := by omega
        generalize its.reverse ++ its = F at *
        clear hla
        go_wp2_with fail
        refine (build_yes n a8 c8 F w8 h1 h7 HR8.out HDA.out (by omega)).mono ?_
        rintro e w2 ⟨y, dq, vq, rfl, hy, -, -, -, -, hb⟩
        have HY := hid hy
        have HX2 := hid (HX8.out.below hb)
        have HK2 := hid (HK8.out.below hb)
        have HB2' := hid (HB8.out.trans (hb.mono (by omega)))
        have hs2 : cb ≤ w2.heap.size := by have := hb.size; omega
        clear hy hb HX8 HK8 HB8 HR8
        have k0 := HK2.out.cell 0 (.int .i64 ck) rfl
        have k1 := HK2.out.cell 1 (.string ⟨ch.toArray⟩) rfl
        have k2 := HK2.out.cell 2 (.slice q1 q2 q3) rfl
        go_wp2_with fail
        refine (idx_attr2 x n (goodL n its) ck ch (.slice q1 q2 q3) w2 HX2.out).mono ?_
        rintro e w3 ⟨v3, rfl, hv3, hb⟩
        have HV3 := hid hv3
        have HX3 := hid (HX2.out.below hb)
        have HY3 := hid (HY.out.below hb)
        have HK3 := hid (HK2.out.below hb)
        have HB3 := hid (HB2'.out.trans (hb.mono (by omega)))
        have hs3 : cb ≤ w3.heap.size := by have := hb.size; omega
        clear hv3 hb HX2 HY HK2 HB2' k0 k1 k2
        have k0 := HK3.out.cell 0 (.int .i64 ck) rfl
        have k1 := HK3.out.cell 1 (.string ⟨ch.toArray⟩) rfl
        have k2 := HK3.out.cell 2 (.slice q1 q2 q3) rfl
        go_wp2_with fail
        refine (idx_attr2 y n (goodL n F) ck ch (.slice q1 q2 q3) w3 HY3.out).mono ?_
        rintro e w4 ⟨v4, rfl, hv4, hb⟩
        have HV4 := hid hv4
        rw [← atS_same ck ch HGS.out] 
        rw [← atL_same n ck ch HGS.out] at HV4
        have HV4b := hid (HV3.out.below hb)
        have HX4 := hid (HX3.out.below hb)
        have HY4 := hid (HY3.out.below hb)
        have HB4 := hid (HB3.out.trans (hb.mono (by omega)))
        have hs4 : cb ≤ w4.heap.size := by have := hb.size; omega
        have HLE := hid (Nat.le_trans (atL_len n ck ch (goodL n its)) h7)
        clear hv4 hb HV3 HX3 HY3 HB3 k0 k1 k2
        generalize atL n ck ch (goodL n its) = L at *
        generalize atS ck ch (goodL n its) = sq at *
        generalize atE ck = er at *
        have he1 : (sq == sq) = true := beq_self_eq_true _
        have he2 : (er == er) = true := beq_self_eq_true _
        go_wp2_with fail
        refine (same_yes v3 v4 L w4 HV4b.out HV4.out (by have := HLE.out; omega)).mono ?_
        rintro e w5 ⟨rfl, hb⟩
        have HX5 := hid (HX4.out.below hb)
        have HY5 := hid (HY4.out.below hb)
        have HB5 := hid (HB4.out.trans (hb.mono (by omega)))
        have hs5 : cb ≤ w5.heap.size := by have := hb.size; omega
        clear hb HX4 HY4 HB4 HV4 HV4b
        have HHL : Hid (x.hs.length ≤ its.length) := Nat.le_trans (hs_len HX5.out) (List.length_filter_le _ _)
        have HHM : Hid (y.hs.length ≤ F.length) := Nat.le_trans (hs_len HY5.out) (List.length_filter_le _ _)
        have HDF : Hid (∀ i ∈ goodL n its, i.home.length ≤ maxLen) := fun i hi => (HD.out i (List.mem_filter.1 hi).1).2
        have HDG : Hid (∀ i ∈ goodL n F, i.home.length ≤ maxLen) := fun i hi => HDF.out i ((HGS.out i).2 hi)
        have HPM := hid (sortL_perm (hs_perm HX5.out HY5.out HGS.out))
        go_wp2_with fail
        refine (idx_homes x n (goodL n its) w5 HX5.out HDF.out (by have := HHL.out; omega)).mono ?_
        rintro e w6 ⟨v6, rfl, hv6, hb⟩
        have HV6 := hid hv6
        have HY6 := hid (HY5.out.below hb)
        have HB6 := hid (HB5.out.trans (hb.mono (by omega)))
        have hs6 : cb ≤ w6.heap.size := by have := hb.size; omega
        clear hv6 hb HX5 HY5 HB5
        go_wp2_with fail
        refine (idx_homes y n (goodL n F) w6 HY6.out HDG.out (by have := HHM.out; omega)).mono ?_
        rintro e w7 ⟨v7, rfl, hv7, hb⟩
        rw [← HPM.out] at hv7
        have HV7 := hid hv7
        have HV6' := hid (HV6.out.below hb)
        have HB7 := hid (HB6.out.trans (hb.mono (by omega)))
        have hs7 : cb ≤ w7.heap.size := by have := hb.size; omega
        have HSL : Hid ((sortL (x.hs.map (·.1))).length ≤ 1048576) := by
          show _ ≤ _
          rw [sortL_len, List.length_map]; have := HHL.out; omega
        clear hv7 hb HY6 HB6 HV6
        go_wp2_with fail
        refine (same_texts_yes v6 v7 _ w7 HV6'.out HV7.out (by have := HSL.out; omega)).mono ?_
        rintro e w8' ⟨rfl, hb⟩
        have HB8 := hid (HB7.out.trans (hb.mono (by omega)))
        have hs8' : cb ≤ w8'.heap.size := by have := hb.size; omega
        clear hb HB7 HV6' HV7
        go_wp2_with fail
        refine (awake10 _).mono ?_
        rintro e w9 ⟨rfl, hb⟩
        have HB9 := hid (HB8.out.trans (hb.mono (by omega)))
        clear hb HB8
        go_wp2_with fail
        go_ret
        exact ⟨rfl, by rw [HCB.out]; exact HB9.out⟩
def T : Ty := .pair (.int .i64) (.pair (.slice TItem) (.pair TCmd .unit))
theorem walk' (W : World) (vs : List Value) (el : T.El) (hr : ArgsRd W T vs el) (hf : Blk T el ≤ 1048576) : Calls Try.prog 6 vs.toArray W fun e w' => e = .returned (.bool true) ∧ Below W.heap.size W w' := by
  obtain ⟨v1, r1, cs1, rfl, hv1, hx1, v2, r2, cs2, rfl, hv2, hx2, v3, r3, cs3, rfl, hv3, hx3, rfl⟩ := hr
  obtain ⟨rfl, -⟩ := hx1
  obtain rfl : v1 = .int .i64 el.fst := by simpa [ValOf, eq_comm] using hv1
  obtain rfl : cs2 = [v2] := hv2
  obtain ⟨a, c, its, rfl, hl, hr, hd, h0, -, -⟩ := items_of2 hx2
  obtain ⟨c7, c8, rfl, -, ⟨rfl, -⟩, c9, c10, rfl, -, ⟨rfl, -⟩, c11, c12, rfl, -, ⟨a3, cp3, us, rfl, -⟩, rfl⟩ := hx3
  have hv' : v3 = .agg _ := hv3
  rw [hv']
  have m2 := blk_slice (e := TItem) (fun x => by simp only [Blk]; omega) el.2.1
  have m1 : Blk (.slice TItem) el.2.1 ≤ Blk T el := by
    show _ ≤ Blk (.int .i64) el.1 + (Blk (.slice TItem) el.2.1 + _)
    omega
  exact walk el.fst a c its _ _ _ W hr hd ⟨_, _, _, rfl⟩ h0 (by rw [hl]; exact Nat.le_of_lt (by omega))

theorem own : ownKnob Try.prog.godebug = none := by kernel_rfl
theorem laidOut : laidOutB Try.prog = true := by kernel_rfl

set_option maxRecDepth 100000 in
theorem lifted (os : Os) (started : os.Started) (H : Type) (enc : TypeId × Value → H) (F : Stop.Interp) :
    ReturnsInHanded {} Try.checked os 6 .any ((Rows.OpenSpec.upto Rows.interfOrderSpec).pre6 enc Try.prog Try.f6 Rows.interfOrderUptoRow.domain false) (((Rows.OpenSpec.upto Rows.interfOrderSpec).at F).post enc Try.prog Try.f6 false true false false) := by
  refine returnsInHanded_of_cond (C := Try.checked) (s := Rows.OpenSpec.upto Rows.interfOrderSpec) (k := Rows.uptoSmall) rfl own started (by kernel_rfl) Try.func6
    (OpenSpec.witness (enc := enc) (C := Try.checked) (s := Rows.OpenSpec.upto Rows.interfOrderSpec) (k := Rows.uptoSmall) rfl false ⟨#[], #[.int .i64 0, .slice none 0 0, .agg #[.int .i64 0, .string ByteArray.empty, .slice none 0 0]], []⟩ 16 (by kernel_rfl) (by kernel_rfl) (by kernel_rfl)
      (x := ([.lit (.int .i64 0), .nil, .agg [.lit (.int .i64 0), .lit (.string []), .nil]], [], [])) (by kernel_rfl) rfl (by kernel_rfl)) ?_
  intro W base args ds gs before hval hW _ hk _
  exact law_upto T (by kernel_rfl) laidOut (by kernel_rfl) rfl rfl Try.underlying4 (fun ds h => by
    match ds, h with
    | [d0, d1, d2], _ => rfl) walk' W base args ds gs before hval hW hk

theorem over : Rows.interfOrderUptoRow.holds Try.pinned (Rows.OpenSpec.upto Rows.interfOrderSpec) :=
  OpenClaim.holds_of_cond 6 Try.f6 rfl rfl rfl rfl rfl rfl rfl ⟨rfl, rfl, rfl, rfl, rfl⟩ rfl rfl rfl rfl rfl (by kernel_rfl) Try.func6 (by kernel_rfl)
    (of_decide_eq_true (by kernel_rfl)) (by unfold Func.isWrapper; first | (rw [if_pos (by decide +kernel)]; kernel_rfl) | (rw [if_neg (by decide +kernel)]; exact ⟨rfl, rfl⟩))
    (fun os started H enc _ F => lifted os started H enc F)

theorem proved : Rows.InterfOrderUptoSaid := over
#print axioms proved
end Go.Proofs.Ytongefjadoidbaa.interfOrder
