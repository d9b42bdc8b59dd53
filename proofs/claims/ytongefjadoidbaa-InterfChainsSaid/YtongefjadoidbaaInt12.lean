/-
  Interf: the document's Interfere and Attr.
-/
import Derived.Test.YtongefjadoidbaaInt11
namespace Go.Proofs.Ytongefjadoidbaa
open Go.RowKit
set_option maxRecDepth 20000
set_option linter.unusedVariables false

theorem len_sub {l m : List (List UInt8)} (hn : l.Nodup) (hs : ∀ x ∈ l, x ∈ m) : l.length ≤ m.length := by
  induction l generalizing m with
  | nil => simp
  | cons a t ih =>
    obtain ⟨h1, h2⟩ := List.nodup_cons.1 hn
    have ha := hs a (List.mem_cons_self ..)
    have := ih (m := m.erase a) h2 (fun x hx => (List.mem_erase_of_ne (by rintro rfl; exact h1 hx)).2 (hs x (List.mem_cons_of_mem _ hx)))
    rw [List.length_erase_of_mem ha] at this
    have := List.length_pos_of_mem ha
    simp only [List.length_cons]; omega
theorem hs_len {w : World} {x : IdxP} {n : Nat} {S : List It} (h : IdxAt w x n S) : x.hs.length ≤ S.length := by
  have := len_sub (m := S.map (·.home)) h.g.nokeys (fun k hk => by
    obtain ⟨i, hi, -, he⟩ := (h.keys k).1 hk
    exact List.mem_map.2 ⟨i, hi, he⟩)
  simpa using this
theorem hs_perm {w w' : World} {x y : IdxP} {n : Nat} {S S' : List It} (h : IdxAt w x n S) (h' : IdxAt w' y n S') (hS : ∀ i, i ∈ S ↔ i ∈ S') : (x.hs.map (·.1)).Perm (y.hs.map (·.1)) := by
  refine (List.perm_ext_iff_of_nodup h.g.nokeys h'.g.nokeys).2 fun k => ?_
  rw [h.keys, h'.keys]
  constructor
  · rintro ⟨i, hi, r⟩; exact ⟨i, (hS i).1 hi, r⟩
  · rintro ⟨i, hi, r⟩; exact ⟨i, (hS i).2 hi, r⟩

/-- What Attr answers. -/
def atS (k : Int) (h : List UInt8) (S : List It) : Int := if KindOk k then seqMax (interL k h S) + 1 else 0
def atL (n : Nat) (k : Int) (h : List UInt8) (S : List It) : List Int := if KindOk k then depsL n (interL k h S) else []
def atE (k : Int) : Int := if KindOk k then 0 else 100
theorem inter_mem (k : Int) (h : List UInt8) {S S' : List It} (hS : ∀ i, i ∈ S ↔ i ∈ S') : ∀ i, i ∈ interL k h S ↔ i ∈ interL k h S' := fun i => by
  unfold interL
  rw [List.mem_filter, List.mem_filter, hS i]
theorem atS_same (k : Int) (h : List UInt8) {S S' : List It} (hS : ∀ i, i ∈ S ↔ i ∈ S') : atS k h S = atS k h S' := by
  unfold atS; rw [seqMax_same (inter_mem k h hS)]
theorem atL_same (n : Nat) (k : Int) (h : List UInt8) {S S' : List It} (hS : ∀ i, i ∈ S ↔ i ∈ S') : atL n k h S = atL n k h S' := by
  unfold atL; rw [depsL_same n (inter_mem k h hS)]
theorem atL_len (n : Nat) (k : Int) (h : List UInt8) (S : List It) : (atL n k h S).length ≤ n := by
  unfold atL; split
  · rw [depsL_len]; exact Nat.le_refl _
  · exact Nat.zero_le _
theorem idx_attr2 (x : IdxP) (n : Nat) (S : List It) (k : Int) (h : List UInt8) (d : Value) (w : World) (hx : IdxAt w x n S) :
    Calls Try.prog 9 #[.pointer (some ⟨x.ib, 0, none⟩), .agg #[.int .i64 k, .string ⟨h.toArray⟩, d]] w fun e w' => ∃ v, e = .returned (.tuple #[.int .i64 (atS k h S), v, .int .i64 (atE k)]) ∧ IsInts w' v (atL n k h S) ∧ Below w.heap.size w w' := by
  refine (idx_attr x n S k h d w hx).mono ?_
  rintro e w' ⟨hb, ⟨hk, rfl⟩ | ⟨hk, v, rfl, hv⟩⟩
  · refine ⟨.slice none 0 0, ?_, ?_, hb⟩
    · unfold atS atE; rw [if_neg hk, if_neg hk]
    · unfold atL; rw [if_neg hk]
      exact ⟨none, 0, rfl, by intro j v hv; simp at hv, fun _ => rfl, Nat.le_refl _, Nat.zero_le _⟩
  · refine ⟨v, ?_, ?_, hb⟩
    · unfold atS atE; rw [if_pos hk, if_pos hk]
    · unfold atL; rw [if_pos hk]; exact hv.ints
theorem good_rev (n : Nat) (its : List It) : ∀ i, i ∈ goodL n its ↔ i ∈ goodL n (its.reverse ++ its) := fun i => by
  unfold goodL
  rw [List.mem_filter, List.mem_filter, List.mem_append, List.mem_reverse]
  simp
theorem flat_len (its : List It) : (its.flatMap itCells).length = its.length * 6 := by
  induction its with
  | nil => rfl
  | cons i l ih => rw [List.flatMap_cons, List.length_append, ih, List.length_cons, show (itCells i).length = 6 from rfl, Nat.add_mul]; omega
theorem flat_one {its : List It} (hd : ∀ i ∈ its, (∃ d l c, i.data = .slice d l c) ∧ i.home.length ≤ maxLen) : ∀ u ∈ its.flatMap itCells, u.oneCell' = true := by
  intro u hu
  obtain ⟨i, hi, hu⟩ := List.mem_flatMap.1 hu
  obtain ⟨⟨d, l, c, e⟩, -⟩ := hd i hi
  unfold itCells at hu
  rw [e] at hu
  simp only [List.mem_cons, List.not_mem_nil, or_false] at hu
  rcases hu with rfl | rfl | rfl | rfl | rfl | rfl <;> rfl


set_option maxHeartbeats 2000000 in
theorem ref_inter (k1 k2 : Int) (h1 h2 : List UInt8) (d1 d2 : Value) (w : World) :
    Calls Try.prog 29 #[.agg #[.int .i64 k1, .string ⟨h1.toArray⟩, d1], .agg #[.int .i64 k2, .string ⟨h2.toArray⟩, d2]] w fun e w' => e = .returned (.bool (interB k1 h1 k2 h2)) ∧ Below w.heap.size w w' := by
  have heq := text_beq h1 h2
  go_enter Try.func29, Try.ntmps29
  go_upto_region 1 with fail
  have hb1 := below_new (w := w) (.cells #[.int .i64 k1, .string ⟨h1.toArray⟩, d1] 25)
  have HK := hid (ObjAt.new w 25 #[.int .i64 k1, .string ⟨h1.toArray⟩, d1])
  have hs1 : (w.alloc (.cells #[.int .i64 k1, .string ⟨h1.toArray⟩, d1] 25)).heap.size = w.heap.size + 1 := by simp
  generalize w.alloc (.cells #[.int .i64 k1, .string ⟨h1.toArray⟩, d1] 25) = W1 at *
  have hb2 := below_new (w := W1) (.cells #[.int .i64 k2, .string ⟨h2.toArray⟩, d2] 25)
  have HI := hid (ObjAt.new W1 25 #[.int .i64 k2, .string ⟨h2.toArray⟩, d2])
  rw [hs1] at HI
  replace HK := hid (HK.out.below hb2)
  have HB := hid (hb1.trans (hb2.mono (by omega)))
  generalize W1.alloc (.cells #[.int .i64 k2, .string ⟨h2.toArray⟩, d2] 25) = W2 at *
  clear hb1 hb2 hs1
  have a0 := HK.out.cell 0 (.int .i64 k1) rfl
  have a1 := HK.out.cell 1 (.string ⟨h1.toArray⟩) rfl
  have b0 := HI.out.cell 0 (.int .i64 k2) rfl
  have b1 := HI.out.cell 1 (.string ⟨h2.toArray⟩) rfl
  generalize hkb : w.heap.size = kb at *
  have HKB := hid hkb
  clear hkb
  by_cases p1 : k1 < 1
  · have HR := hid (inter_bad1 (k1 := k1) (k2 := k2) (h1 := h1) (h2 := h2) (by omega))
    clear heq
    go_wp2_with fail
    go_ret
    exact ⟨by rw [HR.out]; rfl, by rw [HKB.out]; exact HB.out⟩
  by_cases p2 : 2 < k1
  · have HR := hid (inter_bad1 (k1 := k1) (k2 := k2) (h1 := h1) (h2 := h2) (by omega))
    clear heq
    go_wp2_with fail
    go_ret
    exact ⟨by rw [HR.out]; rfl, by rw [HKB.out]; exact HB.out⟩
  by_cases p3 : k2 < 1
  · have HR := hid (inter_bad2 (k1 := k1) (k2 := k2) (h1 := h1) (h2 := h2) (by omega))
    clear heq
    go_wp2_with fail
    go_ret
    exact ⟨by rw [HR.out]; rfl, by rw [HKB.out]; exact HB.out⟩
  by_cases p4 : 2 < k2
  · have HR := hid (inter_bad2 (k1 := k1) (k2 := k2) (h1 := h1) (h2 := h2) (by omega))
    clear heq
    go_wp2_with fail
    go_ret
    exact ⟨by rw [HR.out]; rfl, by rw [HKB.out]; exact HB.out⟩
  by_cases ht1 : k1 = 2
  · have htb1 : (k1 == 2) = true := beq_iff_eq.2 ht1
    have HR := hid (inter_two (k1 := k1) (k2 := k2) (h1 := h1) (h2 := h2) (by omega) (by omega) (.inl ht1))
    clear ht1 heq
    go_wp2_with fail
    go_ret
    exact ⟨by rw [HR.out]; rfl, by rw [HKB.out]; exact HB.out⟩
  · have htb1 : (k1 == 2) = false := beq_eq_false_iff_ne.2 ht1
    by_cases ht2 : k2 = 2
    · have htb2 : (k2 == 2) = true := beq_iff_eq.2 ht2
      have HR := hid (inter_two (k1 := k1) (k2 := k2) (h1 := h1) (h2 := h2) (by omega) (by omega) (.inr ht2))
      clear ht1 ht2 heq
      go_wp2_with fail
      go_ret
      exact ⟨by rw [HR.out]; rfl, by rw [HKB.out]; exact HB.out⟩
    · have htb2 : (k2 == 2) = false := beq_eq_false_iff_ne.2 ht2
      have HR := hid (inter_home (k1 := k1) (k2 := k2) (h1 := h1) (h2 := h2) (by omega) (by omega) ht1 ht2)
      clear ht1 ht2 heq
      go_wp2_with fail
      go_ret
      exact ⟨by rw [HR.out, ← beq_dec]; rfl, by rw [HKB.out]; exact HB.out⟩

theorem inter_succ (k : Int) (h : List UInt8) (L : List It) {j : Nat} (hj : j < L.length) : interL k h (L.take (j + 1)) = interL k h (L.take j) ++ (if interB k h L[j].kind L[j].home = true then [L[j]] else []) := by
  unfold interL
  rw [List.take_succ_eq_append_getElem hj, List.filter_append]
  by_cases hB : interB k h L[j].kind L[j].home = true
  · rw [if_pos hB]; simp [hB]
  · rw [if_neg hB]; simp [hB]

theorem inter_good' {n : Nat} {k : Int} {h : List UInt8} {S : List It} (hg : ∀ i ∈ S, GoodIt n i) : ∀ i ∈ interL k h S, RangeOk n i := fun i hi => (hg i (List.mem_filter.1 hi).1).2
theorem seq_pos' (L : List It) : 1 ≤ seqMax L + 1 := by have := seqMax_nonneg L; omega
set_option maxHeartbeats 4000000 in
theorem ref_attr (dp : Nat) (v : Value) (n : Nat) (L : List It) (k : Int) (h : List UInt8) (d : Value) (w : World) (hx : DAt w dp v n L) (hg : ∀ i ∈ L, GoodIt n i) (hd : ∀ i ∈ L, ∃ d l c, i.data = .slice d l c) (h1 : 1 ≤ n) (h7 : n ≤ 7) (hm : L.length ≤ 4611686018427387904) :
    Calls Try.prog 15 #[.pointer (some ⟨dp, 0, none⟩), .agg #[.int .i64 k, .string ⟨h.toArray⟩, d]] w fun e w' => ∃ v, e = .returned (.tuple #[.int .i64 (atS k h L), v, .int .i64 (atE k)]) ∧ IsInts w' v (atL n k h L) ∧ Below w.heap.size w w' := by
  have HG := hid hg
  have HD := hid hd
  have HX := hid hx
  obtain ⟨i0, hi0, hz0, hs0, hy0⟩ := info_parts infoInt
  clear hg hd hx
  go_enter Try.func15, Try.ntmps15
  go_upto_region 1 with fail
  have hb1 := below_new (w := w) (.cells #[.int .i64 k, .string ⟨h.toArray⟩, d] 25)
  have HK := hid (ObjAt.new w 25 #[.int .i64 k, .string ⟨h.toArray⟩, d])
  have HB := hid hb1
  have hlw : Hid (w.heap.size < (w.alloc (.cells #[.int .i64 k, .string ⟨h.toArray⟩, d] 25)).heap.size) := HK.out.lt
  replace HX := hid (HX.out.below hb1)
  generalize w.alloc (.cells #[.int .i64 k, .string ⟨h.toArray⟩, d] 25) = W at *
  generalize hcb : w.heap.size = cb at *
  have HCB := hid hcb
  clear hcb hb1
  have k0 := HK.out.cell 0 (.int .i64 k) rfl
  by_cases p1 : k < 0
  · have HN : Hid (¬ KindOk k) := fun h => by unfold KindOk at h; omega
    clear hi0 hz0 hs0 hy0
    go_wp2_with fail
    go_ret3
    refine ⟨.slice none 0 0, ?_, ?_, by rw [HCB.out]; exact HB.out⟩
    · unfold atS atE; rw [if_neg HN.out, if_neg HN.out]; rfl
    · unfold atL; rw [if_neg HN.out]
      exact ⟨none, 0, rfl, by intro j v hv; simp at hv, fun _ => rfl, Nat.le_refl _, Nat.zero_le _⟩
  by_cases p2 : 2 < k
  · have HN : Hid (¬ KindOk k) := fun h => by unfold KindOk at h; omega
    clear hi0 hz0 hs0 hy0
    go_wp2_with fail
    go_ret3
    refine ⟨.slice none 0 0, ?_, ?_, by rw [HCB.out]; exact HB.out⟩
    · unfold atS atE; rw [if_neg HN.out, if_neg HN.out]; rfl
    · unfold atL; rw [if_neg HN.out]
      exact ⟨none, 0, rfl, by intro j v hv; simp at hv, fun _ => rfl, Nat.le_refl _, Nat.zero_le _⟩
  have HN : Hid (KindOk k) := ⟨by omega, by omega⟩
  have x0 := HX.out.obj.cell 0 (.int .i64 n) rfl
  go_wp2_with (at_make; refine wpList_make_full _ rfl _ _ 31 rfl W.heap.size 3 i0 (.int .i64 0) 1 Try.underlying31 hi0 hz0 hs0 _ _ _ _ n rfl rfl rfl rfl (by rw [hy0]; omega) (by unfold maxLen; omega) (Nat.le_refl _) ?_; intro w1 ho hgr; refine Stop.mk ?_)
  obtain ⟨cu, hO, hC⟩ := made_zero W.heap.size ho
  have HO := hid hO
  have HC := hid hC
  have HB1 := hid ((Below.refl W.heap.size W).grown hgr (Nat.le_refl _) (fun k hk => by cases hk))
  clear ho hgr hO hC hi0 hz0 hs0 hy0 x0 k0 p1 p2
  refine Stop.go ?_
  generalize hb2 : W.heap.size = b2 at *
  have HB2 := hid hb2
  clear hb2
  have hx0 := HX.out.own
  obtain ⟨av, cv, rfl, hrv, -⟩ := owns_row hx0
  have HRV := hid hrv
  clear hx0 hrv
  go_wp2_with fail
  go_loopw [7, 9] (fun sq s wr => ∃ (j : Nat) (cu : Array Value), s = .int .i64 j ∧ j ≤ L.length ∧ sq = .int .i64 (seqMax (interL k h (L.take j))) ∧ Hid (ObjAt wr b2 3 cu) ∧ Hid (Cells cu (depsL n (interL k h (L.take j)))) ∧ Hid (Below b2 W wr)) (fun _ s _ => L.length - (intOf s).toNat)
  case atStart => exact ⟨0, cu, rfl, Nat.zero_le _, rfl, HO, by rw [List.take_zero]; rw [show interL k h [] = [] from rfl, depsL_nil]; exact HC, HB1⟩
  case round =>
    clear HO HC HB1 cu
    obtain ⟨j, cu, rfl, hj, rfl, HO, HC, HB1⟩ := hrel
    have hbl : Below W.heap.size W wr := by rw [HB2.out]; exact HB1.out
    have hbw : b2 ≤ wr.heap.size := by have := HB1.out.size; have := HB2.out; omega
    have HXw := hid (HX.out.below hbl)
    have HKw := hid (HK.out.below hbl)
    have HRw := hid (HRV.out.below hbl)
    have x1 := HXw.out.obj.cell 1 (.slice av L.length cv) rfl
    clear hbl
    by_cases hlt : j < L.length
    · obtain ⟨b, o, rfl, r0, r1, r2, r3, r4, r5⟩ := row_it HRw.out hlt
      have HGj := hid (HG.out L[j] (List.getElem_mem hlt))
      have HDj := hid (HD.out L[j] (List.getElem_mem hlt))
      have HTK := hid (inter_succ k h L hlt)
      generalize interL k h (L.take j) = T at *
      generalize L[j] = it at *
      obtain ⟨ki, ho, da, re, nu, se⟩ := it
      obtain ⟨d1, d2, d3, hde⟩ := HDj.out
      dsimp only at hde r0 r1 r2 r3 r4 r5
      subst hde
      clear HDj
      go_upto_region 9 with fail
      have hb4 := below_new (w := wr) (.cells #[.int .i64 ki, .string ⟨ho.toArray⟩, .slice d1 d2 d3, .int .i64 re, .int .i64 nu, .int .i64 se] 39)
      have HI := hid (ObjAt.new wr 39 #[.int .i64 ki, .string ⟨ho.toArray⟩, .slice d1 d2 d3, .int .i64 re, .int .i64 nu, .int .i64 se])
      have HOq := hid (HO.out.below hb4)
      have HKq := hid (HKw.out.below hb4)
      have HBq := hid (HB1.out.trans (hb4.mono hbw))
      have hsq : b2 ≤ (wr.alloc (.cells #[.int .i64 ki, .string ⟨ho.toArray⟩, .slice d1 d2 d3, .int .i64 re, .int .i64 nu, .int .i64 se] 39)).heap.size := Nat.le_trans hbw hb4.size
      have hgb : b2 < wr.heap.size := HO.out.lt
      generalize wr.alloc (.cells #[.int .i64 ki, .string ⟨ho.toArray⟩, .slice d1 d2 d3, .int .i64 re, .int .i64 nu, .int .i64 se] 39) = wq at *
      generalize wr.heap.size = kb at *
      clear r0 r1 r2 r3 r4 r5 x1 HO HB1 HXw HKw HRw hb4
      have i0 := HI.out.cell 0 (.int .i64 ki) rfl
      have i1 := HI.out.cell 1 (.string ⟨ho.toArray⟩) rfl
      have i2 := HI.out.cell 2 (.slice d1 d2 d3) rfl
      have k0 := HKq.out.cell 0 (.int .i64 k) rfl
      have k1 := HKq.out.cell 1 (.string ⟨h.toArray⟩) rfl
      have k2 := HKq.out.cell 2 d rfl
      go_wp2_with fail
      refine (ref_inter k ki h ho d (.slice d1 d2 d3) wq).mono ?_
      rintro e w6 ⟨rfl, hb⟩
      have HI6 := hid (HI.out.below hb)
      have HO6 := hid (HOq.out.below hb)
      have HB6 := hid (HBq.out.trans (hb.mono hsq))
      have hs6 : b2 ≤ w6.heap.size := Nat.le_trans hsq hb.size
      clear hb i0 i1 i2 k0 k1 k2 HI HOq HKq HBq hsq
      cases hB : interB k h ki ho with
      | false =>
        rw [hB] at HTK
        clear hB
        have HTQ : Hid (interL k h (L.take (j + 1)) = T) := by show _ = _; rw [HTK.out]; simp
        go_wp2_with fail
        go_roundw
        case rel => exact ⟨j + 1, cu, by go_num, by omega, by rw [HTQ.out], HO6, by rw [HTQ.out]; exact HC, HB6⟩
        case measure => simp [intOf]; omega
      | true =>
        rw [hB, if_pos rfl] at HTK
        clear hB
        obtain ⟨-, g0, gn, g1, gm, g2, g3⟩ := HGj.out
        dsimp only at g0 gn g1 gm g2 g3
        have HQ := hid (seqMax_snoc T ⟨ki, ho, .slice d1 d2 d3, re, nu, se⟩ (by dsimp only; omega))
        have HDP := hid (depsL_snoc T ⟨ki, ho, .slice d1 d2 d3, re, nu, se⟩ HGj.out.2)
        rw [← HTK.out] at HQ HDP
        obtain ⟨r, rfl⟩ : ∃ r : Nat, re = r := ⟨re.toNat, by omega⟩
        have hrn : r < n := by omega
        have hrt : ((r : Int)).toNat = r := by omega
        dsimp only at HQ HDP
        rw [hrt] at HDP
        have hcr : cu[r]? = some (.int .i64 (depMax (r : Int) T)) := by
          have := HC.out.2 r (by rw [depsL_len]; exact hrn)
          rw [this, depsL_get]
        have hset : (depsL n T).set r (depMax (r : Int) T) = depsL n T := by
          have e := depsL_get n T r (by rw [depsL_len]; exact hrn)
          rw [← e, List.set_getElem_self]
        have HSET := hid hset
        have hd6 := HO6.out.cell r _ hcr
        have f6 := HO6.out.frozen r
        have i3 := HI6.out.cell 3 (.int .i64 r) rfl
        have i4 := HI6.out.cell 4 (.int .i64 nu) rfl
        have i5 := HI6.out.cell 5 (.int .i64 se) rfl
        have HIC := hid (Nat.lt_irrefl 0)
        have hrI : (r : Int) < (n : Int) := by omega
        clear hset hrt g0 gn g1 gm g2 g3 HGj
        generalize depMax (r : Int) T = dm at *
        generalize seqMax T = sm at *
        have hd6w : ∀ q, (w6.drewN q).cell? ⟨b2, r, none⟩ = some (.int .i64 dm) := fun q => hd6
        by_cases hse : sm < se
        · have HQ2 : Hid (seqMax (interL k h (L.take (j + 1))) = se) := by show _ = _; rw [HQ.out]; omega
          by_cases hnu : dm < nu
          · have HD2 : Hid (depsL n (interL k h (L.take (j + 1))) = (depsL n T).set r nu) := by show _ = _; rw [HDP.out]; congr 1; omega
            go_upto_region 12 with fail
            go_quiet (fail)
            have HO7 := hid (HO6.out.below (below_drewN' (w := w6) nq))
            have HB7 : Hid (Below b2 W (w6.drewN nq)) := HB6.out.trans (below_drewN' nq)
            have hs7 : b2 ≤ (w6.drewN nq).heap.size := hs6
            have HI7 := hid (HI6.out.below (below_drewN' (w := w6) nq))
            clear hd6 hd6w f6 HO6 HB6 hs6 i3 i4 i5 HI6
            generalize w6.drewN nq = w7 at *
            have hd7 := HO7.out.cell r _ hcr
            have i3 := HI7.out.cell 3 (.int .i64 r) rfl
            have i4 := HI7.out.cell 4 (.int .i64 nu) rfl
            have f7 := HO7.out.frozen r
            have HO8 := hid (HO7.out.set r (.int .i64 nu))
            have HC8 := hid (HC.out.set r nu)
            have HK8 := hid (KeptS.set (S := fun q => q = b2) w7 ⟨b2, r, none⟩ (.int .i64 nu) rfl)
            have HB8 : Hid (Below b2 W (w7.setCell ⟨b2, r, none⟩ (.int .i64 nu))) := HB7.out.trans (HK8.out.below (fun q hq => by omega) hs7)
            go_wp2_with fail
            go_roundw
            case rel => exact ⟨j + 1, _, by go_num, by omega, by rw [HQ2.out], HO8, by rw [HD2.out]; exact HC8, HB8⟩
            case measure => simp [intOf]; omega
          · have HD2 : Hid (depsL n (interL k h (L.take (j + 1))) = depsL n T) := by show _ = _; rw [HDP.out, show max dm nu = dm by omega, HSET.out]
            go_upto_region 12 with fail
            go_quiet (fail)
            go_wp2_with fail
            go_roundw
            case rel => exact ⟨j + 1, cu, by go_num, by omega, by rw [HQ2.out], HO6, by rw [HD2.out]; exact HC, HB6.out.trans (below_drewN' _)⟩
            case measure => simp [intOf]; omega
        · have HQ2 : Hid (seqMax (interL k h (L.take (j + 1))) = sm) := by show _ = _; rw [HQ.out]; omega
          by_cases hnu : dm < nu
          · have HD2 : Hid (depsL n (interL k h (L.take (j + 1))) = (depsL n T).set r nu) := by show _ = _; rw [HDP.out]; congr 1; omega
            go_upto_region 12 with fail
            go_quiet (fail)
            have HO7 := hid (HO6.out.below (below_drewN' (w := w6) nq))
            have HB7 : Hid (Below b2 W (w6.drewN nq)) := HB6.out.trans (below_drewN' nq)
            have hs7 : b2 ≤ (w6.drewN nq).heap.size := hs6
            have HI7 := hid (HI6.out.below (below_drewN' (w := w6) nq))
            clear hd6 hd6w f6 HO6 HB6 hs6 i3 i4 i5 HI6
            generalize w6.drewN nq = w7 at *
            have hd7 := HO7.out.cell r _ hcr
            have i3 := HI7.out.cell 3 (.int .i64 r) rfl
            have i4 := HI7.out.cell 4 (.int .i64 nu) rfl
            have f7 := HO7.out.frozen r
            have HO8 := hid (HO7.out.set r (.int .i64 nu))
            have HC8 := hid (HC.out.set r nu)
            have HK8 := hid (KeptS.set (S := fun q => q = b2) w7 ⟨b2, r, none⟩ (.int .i64 nu) rfl)
            have HB8 : Hid (Below b2 W (w7.setCell ⟨b2, r, none⟩ (.int .i64 nu))) := HB7.out.trans (HK8.out.below (fun q hq => by omega) hs7)
            go_wp2_with fail
            go_roundw
            case rel => exact ⟨j + 1, _, by go_num, by omega, by rw [HQ2.out], HO8, by rw [HD2.out]; exact HC8, HB8⟩
            case measure => simp [intOf]; omega
          · have HD2 : Hid (depsL n (interL k h (L.take (j + 1))) = depsL n T) := by show _ = _; rw [HDP.out, show max dm nu = dm by omega, HSET.out]
            go_upto_region 12 with fail
            go_quiet (fail)
            go_wp2_with fail
            go_roundw
            case rel => exact ⟨j + 1, cu, by go_num, by omega, by rw [HQ2.out], HO6, by rw [HD2.out]; exact HC, HB6.out.trans (below_drewN' _)⟩
            case measure => simp [intOf]; omega
    · obtain rfl : j = L.length := by omega
      rw [List.take_length] at *
      have HBE := hid (HB.out.trans (HB1.out.mono (by have := hlw.out; omega)))
      have hsp := seq_pos' (interL k h L)
      have hsb := seqMax_bound (n := n) (inter_good' (k := k) (h := h) HG.out)
      have HAS : Hid (atS k h L = seqMax (interL k h L) + 1) := by show _ = _; unfold atS; rw [if_pos HN.out]
      have HAL : Hid (atL n k h L = depsL n (interL k h L)) := by show _ = _; unfold atL; rw [if_pos HN.out]
      have HAE : Hid (atE k = 0) := by show _ = _; unfold atE; rw [if_pos HN.out]
      have HLE := hid (depsL_len n (interL k h L))
      generalize seqMax (interL k h L) = sm at *
      go_wp2_with fail
      go_ret3
      have hv : IsInts wr (.slice (some ⟨b2, 0, none⟩) n n) (atL n k h L) := by
        rw [HAL.out]
        refine ⟨some ⟨b2, 0, none⟩, n, by rw [HLE.out], HC.out.row HO.out, by simp, by rw [HLE.out]; exact Nat.le_refl _, by unfold maxLen; omega⟩
      exact ⟨.slice (some ⟨b2, 0, none⟩) n n, by rw [HAS.out, HAE.out]; rfl, hv, by rw [HCB.out]; exact HBE.out⟩
end Go.Proofs.Ytongefjadoidbaa
