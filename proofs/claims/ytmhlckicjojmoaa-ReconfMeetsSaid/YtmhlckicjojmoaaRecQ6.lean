/-
  Quorum.
-/
import Derived.Test.YtmhlckicjojmoaaRecQ5
import Derived.ArgAppend
import Derived.Laws.EntriesVeiled
namespace Go.Proofs.Ytmhlckicjojmoaa
open Go.RowKit
set_option maxRecDepth 20000
set_option linter.unusedVariables false

theorem RightM.pairwise {l : List Int} (h : RightM l) : l.Pairwise (· < ·) := List.pairwise_iff_getElem.2 (fun _ _ _ hj hij => h.rise hij hj)
theorem RightM.nodup {l : List Int} (h : RightM l) : l.Nodup := h.pairwise.imp (fun h e => by omega)
def othL (ms : List Int) (me : Int) : List Int := ms.filter fun x => !(x == me)
def quoL (ms : List Int) (me : Int) (q : List Int) (k : Nat) : List Int := ms.filter fun x => x == me || (q.take k).contains x
def QuoIs (ms lat : List Int) (me : Int) (q : List Int) : Prop := q.Perm (othL ms me) ∧ q.Pairwise (NearR lat)
theorem quo_perm {ms q : List Int} {me : Int} {k : Nat} (hr : RightM ms) (hme : me ∈ ms) (hq : q.Perm (othL ms me)) : (quoL ms me q k).Perm (q.take k ++ [me]) := by
  have hn := hr.nodup
  have hqn : q.Nodup := hq.nodup_iff.2 (hn.sublist List.filter_sublist)
  have hmem : ∀ x, x ∈ q ↔ x ∈ ms ∧ x ≠ me := fun x => by rw [hq.mem_iff]; unfold othL; simp
  refine (List.perm_ext_iff_of_nodup (hn.sublist List.filter_sublist) ?_).2 ?_
  · rw [List.nodup_append]
    refine ⟨hqn.sublist (List.take_sublist _ _), by simp, fun a ha b hb => ?_⟩
    simp at hb; subst hb
    exact ((hmem a).1 (List.mem_of_mem_take ha)).2
  · intro x
    rw [List.mem_filter, List.mem_append]
    constructor
    · rintro ⟨h1, h2⟩
      rw [Bool.or_eq_true] at h2
      rcases h2 with h2 | h2
      · exact .inr (by simpa using h2)
      · exact .inl (by simpa using h2)
    · rintro (h | h)
      · exact ⟨((hmem x).1 (List.mem_of_mem_take h)).1, by rw [Bool.or_eq_true]; exact .inr (by simpa using h)⟩
      · simp at h; subst h
        exact ⟨hme, by simp⟩
theorem quo_eq {ms q L : List Int} {me : Int} {k : Nat} (hr : RightM ms) (hme : me ∈ ms) (hq : q.Perm (othL ms me)) (hL : L.Perm (q.take k ++ [me])) (hs : L.Pairwise (· ≤ ·)) : L = quoL ms me q k := by
  refine List.Perm.eq_of_pairwise (le := (· ≤ ·)) (fun a b _ _ h1 h2 => by omega) hs ((hr.pairwise.imp (fun h => Int.le_of_lt h)).filter _) (hL.trans (quo_perm hr hme hq).symm)
theorem oth_len {ms : List Int} {me : Int} (hr : RightM ms) (hme : me ∈ ms) : (othL ms me).length + 1 = ms.length := by
  have h := (quo_perm (q := othL ms me) (k := (othL ms me).length) hr hme (List.Perm.refl _)).length_eq
  rw [List.take_length, List.length_append] at h
  have h2 : quoL ms me (othL ms me) (othL ms me).length = ms := by
    unfold quoL
    rw [List.take_length]
    refine List.filter_eq_self.2 (fun x hx => ?_)
    by_cases e : x = me
    · simp [e]
    · rw [Bool.or_eq_true]; right; simp [othL, hx, e]
  rw [h2] at h
  simpa using h.symm
theorem oth_lt {ms : List Int} {me : Int} (hr : RightM ms) : (othL ms me).Pairwise (· < ·) := hr.pairwise.filter _
theorem oth_range {ms : List Int} {me x : Int} (hr : RightM ms) (hx : x ∈ othL ms me) : 0 ≤ x ∧ x ≤ 31 := by
  have hm : x ∈ ms := (List.mem_filter.1 hx).1
  obtain ⟨j, hj, rfl⟩ := List.getElem_of_mem hm
  exact ⟨(hr.1 j hj hj).1, (hr.1 j hj hj).2.1⟩
theorem near_of {lat : List Int} {x y : Int} (h : cmpI (farI lat x) (farI lat y) < 0) : NearR lat x y := by
  unfold cmpI at h
  unfold NearR
  by_cases h1 : farI lat x < farI lat y
  · exact .inl h1
  · rw [if_neg h1] at h
    by_cases h2 : farI lat y < farI lat x
    · rw [if_pos h2] at h; omega
    · rw [if_neg h2] at h; omega
theorem near_not {lat : List Int} {x y : Int} (hxy : y < x) (h : ¬ cmpI (farI lat x) (farI lat y) < 0) : NearR lat y x := by
  unfold cmpI at h
  unfold NearR
  by_cases h1 : farI lat x < farI lat y
  · rw [if_pos h1] at h; omega
  · omega
theorem oth_before {l : List Int} (h : l.Pairwise (· < ·)) {i : Nat} {x y : Int} (hx : l[i]? = some x) (hy : y ∈ l.take i) : y < x := by
  obtain ⟨hi, rfl⟩ := List.getElem?_eq_some_iff.1 hx
  obtain ⟨j, hj, rfl⟩ := List.getElem_of_mem hy
  simp only [List.length_take] at hj
  rw [List.getElem_take]
  exact List.pairwise_iff_getElem.1 h j i (by omega) hi (by omega)
def QuoOk (ms lat : List Int) (me size : Int) : Prop := placeB ms me = true ∧ 1 ≤ size ∧ size ≤ ms.length ∧ negB lat = false
def QuoPost (ms lat : List Int) (me size : Int) (w : World) (e : Ending) (w' : World) : Prop := Below w.heap.size w w' ∧
  ((¬ QuoOk ms lat me size ∧ e = .returned (.tuple #[.slice none 0 0, .bool false])) ∨
   (QuoOk ms lat me size ∧ ∃ v q, e = .returned (.tuple #[v, .bool true]) ∧ QuoIs ms lat me q ∧ IsInts w' v (quoL ms me q (size - 1).toNat)))

set_option maxHeartbeats 2000000 in
theorem ep_quorum (eb : Nat) (ms lat : List Int) (n me size : Int) (a : Option Addr) (c : Nat) (w : World) (he : EpAt w eb ms n) (hl : RightM ms) (hr : RowAt w a (lat.map (Value.int .i64))) (hm : lat.length ≤ 4611686018427387904) :
    Calls Try.prog 24 #[.pointer (some ⟨eb, 0, none⟩), .int .i64 me, .int .i64 size, .slice a lat.length c] w (QuoPost ms lat me size w) := by
  have HE := hid he
  have HR := hid hr
  have h7 := hl.2.2
  have HL := hid hl
  obtain ⟨i0, hi0, hz0, hs0, hy0⟩ := info_parts infoInt
  clear he hr hl
  go_enter Try.func24, Try.ntmps24
  have HK := hid (ObjAt.new w 22 #[.slice a lat.length c])
  have HB := hid (below_new (w := w) (.cells #[.slice a lat.length c] 22))
  replace HE := hid (HE.out.below HB.out)
  replace HR := hid (HR.out.below HB.out)
  go_wp2_with fail
  generalize w.alloc (.cells #[.slice a lat.length c] 22) = W at *
  generalize hlb : w.heap.size = lb at *
  have HLB := hid hlb
  clear hlb
  refine (ep_place eb ms n me _ HE.out HL.out).mono ?_
  rintro e w1 ⟨rfl, rfl⟩
  obtain ⟨ve, hoe, hve⟩ := HE.out
  obtain ⟨ae, ce, rfl, hre, hze, -⟩ := hve
  have c0 := ObjAt.cell hoe 0 (.slice ae ms.length ce) rfl
  have k0 := ObjAt.cell HK.out 0 (.slice a lat.length c) rfl
  have HRE := hid hre
  clear hoe hre
  cases hp : placeB ms me with
  | false =>
    have HQ : Hid (¬ QuoOk ms lat me size) := fun h => absurd (hp.symm.trans h.1) (by decide)
    clear hp c0 k0
    go_wp2_with fail
    go_ret2
    exact ⟨by rw [HLB.out]; exact HB.out, .inl ⟨HQ.out, rfl⟩⟩
  | true =>
    by_cases h1 : 1 ≤ size
    · by_cases h2 : size ≤ ms.length
      · cases hn : negB lat with
        | true =>
          have HQ : Hid (¬ QuoOk ms lat me size) := fun h => absurd (hn.symm.trans h.2.2.2) (by decide)
          have HN := hid hn
          clear hp hn
          go_wp2_with fail
          refine (has_neg a c lat _ HR.out hm).mono ?_
          rintro e w1 ⟨rfl, rfl⟩
          rw [HN.out]
          go_wp2_with fail
          go_ret2
          exact ⟨by rw [HLB.out]; exact HB.out, .inl ⟨HQ.out, rfl⟩⟩
        | false =>
          have HQ : Hid (QuoOk ms lat me size) := ⟨hp, h1, h2, hn⟩
          have HN := hid hn
          have HME : Hid (me ∈ ms) := (placeI_mem ms me).1 (of_decide_eq_true hp)
          have HF := hid (ObjAt.new W 45 #[.func (.func 37) #[] #[.pointer (some ⟨lb, 0, none⟩)]])
          have hb := below_new (w := W) (.cells #[.func (.func 37) #[] #[.pointer (some ⟨lb, 0, none⟩)]] 45)
          have c1 := (hb.cell (p := ⟨eb, 0, none⟩) (lt_of_cell c0)).trans c0
          have HK2 := hid (HK.out.below hb)
          have HR2 := hid (HR.out.below hb)
          have HRE2 := hid (HRE.out.below hb)
          have hlW : lb < W.heap.size := HK.out.lt
          have HB2 := hid (HB.out.trans (hb.mono (Nat.le_of_lt hlW)))
          have hsz : W.heap.size < (W.alloc (.cells #[.func (.func 37) #[] #[.pointer (some ⟨lb, 0, none⟩)]] 45)).heap.size := by simp
          obtain ⟨k, rfl⟩ : ∃ k : Nat, size = (k : Int) + 1 := ⟨(size - 1).toNat, by omega⟩
          have hkm : k < ms.length := by omega
          have hsd : ((k : Int) + 1 < 1) = False := propext ⟨fun h => by omega, False.elim⟩
          have hlt2 : ((ms.length : Int) < (k : Int) + 1) = False := propext ⟨fun h => by omega, False.elim⟩
          have HSZ := hid hsz
          have HSD := hid hlW
          clear hp hn hb hsz hlW
          go_wp2_with fail
          refine (has_neg a c lat _ HR.out hm).mono ?_
          rintro e w1 ⟨rfl, rfl⟩
          rw [HN.out]
          clear HN
          go_wp2_with fail
          clear hsd hlt2 k0 c0 HE HK HR HRE HB
          generalize W.alloc (.cells #[.func (.func 37) #[] #[.pointer (some ⟨lb, 0, none⟩)]] 45) = W1 at *
          generalize W.heap.size = fb at *
          refine (mem_others2 ae ce ms me W1 HRE2.out hze HL.out).mono ?_
          rintro e w1 ⟨g, cap, cu, rfl, ho, hc, hcp, hcm, hgb, hb⟩
          have hc' : Cells cu (othL ms me) := hc
          have hol := oth_len HL.out HME.out
          have hcp' : (othL ms me).length ≤ cap := hcp
          rw [show (List.filter (fun x => !(x == me)) ms).length = (othL ms me).length from rfl]
          have f0 := hb.cell (p := ⟨fb, 0, none⟩) HSZ.out
          have f1 := hb.cell (p := ⟨lb, 0, none⟩) HK2.out.lt
          have KF : Hid (ObjAt w1 fb 45 #[.func (.func 37) #[] #[.pointer (some ⟨lb, 0, none⟩)]]) := HF.out.below hb
          have KL : Hid (ObjAt w1 lb 22 #[.slice a lat.length c]) := HK2.out.below hb
          have KR : Hid (RowAt w1 a (lat.map (Value.int .i64))) := HR2.out.below hb
          have KB := hid (HB2.out.trans (hb.mono (Nat.le_of_lt (Nat.lt_trans HSD.out HSZ.out))))
          have HO := hid ho
          have HC := hid hc'
          have hfg : fb < g := Nat.lt_of_lt_of_le HSZ.out hgb
          have hlg : lb < g := Nat.lt_trans HSD.out hfg
          have HFG := hid hfg
          have HLG := hid hlg
          have hlat : ∀ w', Below g w1 w' → RowAt w' a (lat.map (Value.int .i64)) := fun w' hb' => HR2.out.below (hb.trans (hb'.mono hgb))
          clear f0 f1 hb ho hc hc' hcp HF HK2 HR2 HRE2 HB2 hfg hlg hgb c1
          go_wp2_with fail
          refine (stable_cmp (.pointer (some ⟨fb, 0, none⟩)) (fun x y => cmpI (farI lat x) (farI lat y)) (NearR lat) NearR.trans g cap (othL ms me) w1 cu HO.out HC.out (by omega)
            (fun x hx y hy w' hb => q_cmp fb lb a c lat x y w' ((hb.cell (p := ⟨fb, 0, none⟩) HFG.out).trans (KF.out.cell 0 _ rfl)) ((hb.cell (p := ⟨lb, 0, none⟩) HLG.out).trans (KL.out.cell 0 _ rfl)) (hlat w' hb) (oth_range HL.out hx).1 (oth_range HL.out hy).1)
            (fun x hx y hy h => near_of h) (fun i x y hx hy h => near_not (oth_before (oth_lt HL.out) hx hy) h)).mono ?_
          rintro e w2 ⟨rfl, q, cu2, hq1, hq2, ho2, hc2, hs2, hb2⟩
          have hql : q.length = (othL ms me).length := hq1.length_eq
          have HQI : Hid (QuoIs ms lat me q) := ⟨hq1, hq2⟩
          have HO2 := hid ho2
          have HC2 := hid hc2
          have KB2 := hid (KB.out.trans (hb2.mono (Nat.le_of_lt HLG.out)))
          clear hq1 hq2 ho2 hc2 hs2 hb2 HO HC KB KF KL KR
          have hkc : (k : Int) ≤ (cap : Int) := by omega
          have hk0 : (k : Int) + 1 - 1 = k := by omega
          have HOLD : Hid (∀ j u, ((q.take k).map (Value.int .i64))[j]? = some u → (w2.alloc (.cells #[.int .i64 me] 3)).cell? ⟨g, 0 + j, none⟩ = some u) := fun j u hj => by
            obtain ⟨hj1, e⟩ := List.getElem?_eq_some_iff.1 hj
            simp only [List.length_map, List.length_take] at hj1
            simp only [List.getElem_map, List.getElem_take] at e
            rw [Nat.zero_add]
            have h := HO2.out.cell j _ (by rw [HC2.out.2 j (by omega), e])
            exact ((below_new (w := w2) (.cells #[.int .i64 me] 3)).cell (p := ⟨g, j, none⟩) HO2.out.lt).trans h
          have HNEW : Hid (∀ j u, ([.int .i64 me] : List Value)[j]? = some u → (w2.alloc (.cells #[.int .i64 me] 3)).cell? (Addr.add ⟨w2.heap.size, 0, none⟩ j) = some u) := (RowAt.new w2 #[.int .i64 me] 3 (0, 0)).add
          have KB3 := hid (KB2.out.alloc (Nat.le_trans (Nat.le_of_lt HLG.out) (Nat.le_of_lt HO2.out.lt)) (.cells #[.int .i64 me] 3))
          have hlW : lb ≤ (w2.alloc (.cells #[.int .i64 me] 3)).heap.size := Nat.le_trans (Nat.le_of_lt HLG.out) (Nat.le_trans (Nat.le_of_lt HO2.out.lt) (by simp))
          have HLW := hid hlW
          clear hlat hlW
          go_wp2_with (at_builtin; refine wpList_append_arg _ rfl (.tmp 54) (.tmp 56) 22 rfl 3 i0 (.int .i64 0) 1 8 Try.underlying22 hi0 hz0 hs0 hy0 rfl (by omega) g 0 k k ((q.take k).map (Value.int .i64)) rfl (by simp; omega) HOLD.out ⟨w2.heap.size, 0, none⟩ 1 1 [.int .i64 me] rfl rfl HNEW.out (by simp [Value.oneCell']) (fun h => by omega) (by unfold maxLen; omega) (by omega) (fun h => by omega) ?_; intro _ v3 w3 ho3 hg3; refine Stop.mk ?_)
          obtain ⟨T, hTe⟩ : ∃ T, T = q.take k ++ [me] := ⟨_, rfl⟩
          have hTl : T.length = k + 1 := by rw [hTe, List.length_append, List.length_take]; simp; omega
          have hol3 : w3.ownsRow (w2.alloc (.cells #[.int .i64 me] 3)).heap.size 3 1 v3 T.length (T.map (Value.int .i64)) := by
            rw [hTl, hTe, List.map_append]; exact ho3
          have hb3 : Below (w2.alloc (.cells #[.int .i64 me] 3)).heap.size (w2.alloc (.cells #[.int .i64 me] 3)) w3 := (Below.refl _ _).grown hg3 (Nat.le_refl _) (fun _ h => by cases h)
          obtain ⟨g3, cap3, cu3, rfl, q1, q2, q3, q4, q5, q6⟩ := own_obj hol3 (by omega)
          have HO3 := hid q1
          have HC3 : Hid (Cells cu3 T) := ⟨q3, q4⟩
          have KB4 := hid (KB3.out.trans (hb3.mono HLW.out))
          have hlg3 : lb ≤ g3 := Nat.le_trans HLW.out q2
          have HLG3 := hid hlg3
          have HTE := hid hTe
          have hT7 : T.length ≤ 7 := by omega
          clear hTe hTl ho3 hg3 hol3 hb3 q1 q2 q3 q4 HOLD HNEW KB3 KB2 HLW hlg3 HO2 HC2 HLG HFG
          refine Stop.go ?_
          go_wp2_with fail
          refine (sort_ints g3 cap3 T w3 cu3 HO3.out HC3.out hT7).mono ?_
          rintro e w4 ⟨rfl, L, cu4, hp4, hs4, ho4, hc4, hz4, hb4⟩
          have hLe : L = quoL ms me q k := quo_eq HL.out HME.out HQI.out.1 (by rw [← HTE.out]; exact hp4) hs4
          have hLl : L.length = T.length := hp4.length_eq
          have HV : Hid (IsInts w4 (.slice (some ⟨g3, 0, none⟩) T.length cap3) (quoL ms me q k)) := by
            rw [← hLe]
            exact ⟨some ⟨g3, 0, none⟩, cap3, by rw [hLl], Cells.row ho4 hc4, (fun h => by cases h), by rw [hLl]; exact q5, q6⟩
          have KB5 := hid (KB4.out.trans (hb4.mono HLG3.out))
          clear hp4 hs4 ho4 hc4 hz4 hb4 hLe hLl KB4 HO3 HC3 HLG3 q5 q6
          go_wp2_with fail
          go_ret2
          refine ⟨by rw [HLB.out]; exact KB5.out, .inr ⟨HQ.out, _, q, rfl, HQI.out, ?_⟩⟩
          rw [show ((k : Int) + 1 - 1).toNat = k by omega]
          exact HV.out
      · have HQ : Hid (¬ QuoOk ms lat me size) := fun h => h2 h.2.2.1
        clear hp k0
        go_wp2_with fail
        go_ret2
        exact ⟨by rw [HLB.out]; exact HB.out, .inl ⟨HQ.out, rfl⟩⟩
    · have HQ : Hid (¬ QuoOk ms lat me size) := fun h => h1 h.2.1
      clear hp c0 k0
      go_wp2_with fail
      go_ret2
      exact ⟨by rw [HLB.out]; exact HB.out, .inl ⟨HQ.out, rfl⟩⟩
end Go.Proofs.Ytmhlckicjojmoaa
