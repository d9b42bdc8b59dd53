/-
  check; Add.
-/
import Derived.Test.YtjnbflhpboheiaaDoorWt5
import Derived.Deep.CutBlock
namespace Go.Proofs.YtjnbflhpboheiaaDoor
open Go.RowKit Go.ChangeMaps
set_option maxRecDepth 20000
set_option linter.unusedVariables false

theorem text_same (a b : List UInt8) : ((ByteArray.mk a.toArray).toList == (ByteArray.mk b.toArray).toList) = decide (a = b) := by
  rw [Lib.toList_data, Lib.toList_data, ← beq_dec]

set_option maxHeartbeats 2000000 in
theorem wt_check (k m : List UInt8 × Int) (w : World) :
    Calls Tryd.prog 18 #[.agg #[tkey k.1, .int .i64 k.2], .agg #[tkey m.1, .int .i64 m.2]] w fun e w' => e = .returned (.int .i64 (checkP k m)) ∧ Below w.heap.size w w' := by
  obtain ⟨kh, kn⟩ := k
  obtain ⟨mp, mk⟩ := m
  obtain ⟨r, hr⟩ : ∃ r, checkP (kh, kn) (mp, mk) = r := ⟨_, rfl⟩
  rw [hr]
  have HRR := hid hr
  clear hr
  have HK := hid ((ObjAt.new w 28 #[tkey kh, .int .i64 kn]).below (below_new (.cells #[tkey mp, .int .i64 mk] 60)))
  have HM := hid (ObjAt.new (w.alloc (.cells #[tkey kh, .int .i64 kn] 28)) 60 #[tkey mp, .int .i64 mk])
  have HB := hid ((below_new (w := w) (.cells #[tkey kh, .int .i64 kn] 28)).alloc (by simp) (.cells #[tkey mp, .int .i64 mk] 60))
  have m0 := HM.out.cell 0 (tkey mp) rfl
  go_enter Tryd.func18, Tryd.ntmps18
  go_wp2_with fail
  clear m0
  rw [show (w.alloc (.cells #[tkey kh, .int .i64 kn] 28)).heap.size = w.heap.size + 1 from by simp] at HM
  generalize w.heap.size = kb at HK HM ⊢
  generalize (w.alloc (.cells #[tkey kh, .int .i64 kn] 28)).alloc (.cells #[tkey mp, .int .i64 mk] 60) = w1 at *
  refine (path_home ⟨mp.toArray⟩ _).mono ?_
  rintro e2 w2 ⟨rfl, hb2⟩
  have HK2 := hid (HK.out.below hb2)
  have HM2 := hid (HM.out.below hb2)
  have HB2 := hid (below_next HB.out hb2)
  clear HK HM HB hb2
  have m1 := HM2.out.cell 1 (.int .i64 mk) rfl
  have k0 := HK2.out.cell 0 (tkey kh) rfl
  have k1 := HK2.out.cell 1 (.int .i64 kn) rfl
  have hE : errP (parts (bl ⟨mp.toArray⟩)) = if (parts mp).isNone then 20 else 0 := by
    show (if (parts mp).isSome then (0 : Int) else 20) = _
    cases parts mp <;> rfl
  have hH : txt (homeP (bl ⟨mp.toArray⟩)) = tkey (homeP mp) := rfl
  rw [hE, hH]
  have HC : Hid (r = if mk ≠ 1 ∧ mk ≠ 2 then 160 else if (parts mp).isNone then 20 else if homeP mp ≠ kh ∨ nameOk kh = false ∨ kn < 1 ∨ 4611686018427387903 < kn then 82 else 0) := HRR.out.symm
  clear hE hH
  clear HRR
  generalize homeP mp = h at *
  by_cases h12 : mk = 1 ∨ mk = 2
  · have HC2 : Hid (r = if (parts mp).isNone then 20 else if h ≠ kh ∨ nameOk kh = false ∨ kn < 1 ∨ 4611686018427387903 < kn then 82 else 0) := by
      show _ = _
      rw [HC.out, if_neg (by omega)]
    clear HC
    cases hp : (parts mp).isNone with
    | true =>
      have HC3 : Hid (r = 20) := by show _ = _; rw [HC2.out, hp]; rfl
      clear HC2 hp
      rw [if_pos rfl]
      rcases h12 with rfl | rfl
      all_goals
        go_wp2_with fail
        go_ret
        exact ⟨by rw [HC3.out]; rfl, HB2.out⟩
    | false =>
      have HC3 : Hid (r = if h ≠ kh ∨ nameOk kh = false ∨ kn < 1 ∨ 4611686018427387903 < kn then 82 else 0) := by show _ = _; rw [HC2.out, hp]; rfl
      clear HC2 hp
      rw [if_neg (by simp)]
      by_cases hh : h = kh
      · subst hh
        have e1 : ((ByteArray.mk h.toArray).toList == (ByteArray.mk h.toArray).toList) = true := by simp
        rcases h12 with rfl | rfl
        all_goals
          go_wp2_with fail
          refine (path_name ⟨h.toArray⟩ _).mono ?_
          rintro e3 w3 ⟨rfl, hb3⟩
          have HK3 := hid (HK2.out.below hb3)
          have HB3 := hid (below_next HB2.out hb3)
          have k1 := HK3.out.cell 1 (.int .i64 kn) rfl
          have HN : Hid (nameOk (bl ⟨h.toArray⟩) = nameOk h) := rfl
          rw [HN.out]
          clear hb3 HK2 HM2 HB2 m1 k0 HN
          cases hn : nameOk h with
          | false =>
            have HC4 : Hid (r = 82) := by show _ = _; rw [HC3.out, if_pos (.inr (.inl hn))]
            clear hn HC3
            go_wp2_with fail
            go_ret
            exact ⟨by rw [HC4.out]; rfl, HB3.out⟩
          | true =>
            have HN := hid hn
            clear hn
            by_cases hk1 : kn < 1
            · have HC4 : Hid (r = 82) := by show _ = _; rw [HC3.out, if_pos (.inr (.inr (.inl hk1)))]
              clear HC3
              go_wp2_with fail
              go_ret
              exact ⟨by rw [HC4.out]; rfl, HB3.out⟩
            · by_cases hk2 : 4611686018427387903 < kn
              · have HC4 : Hid (r = 82) := by show _ = _; rw [HC3.out, if_pos (.inr (.inr (.inr hk2)))]
                clear HC3
                go_wp2_with fail
                go_ret
                exact ⟨by rw [HC4.out]; rfl, HB3.out⟩
              · have HC4 : Hid (r = 0) := by
                  show _ = _
                  rw [HC3.out, if_neg]
                  rintro (q | q | q | q)
                  · exact q rfl
                  · rw [HN.out] at q; cases q
                  · exact hk1 q
                  · exact hk2 q
                clear HC3
                go_wp2_with fail
                go_ret
                exact ⟨by rw [HC4.out]; rfl, HB3.out⟩
      · have e1 : ((ByteArray.mk h.toArray).toList == (ByteArray.mk kh.toArray).toList) = false := by rw [text_same]; simpa using hh
        have HC4 : Hid (r = 82) := by show _ = _; rw [HC3.out, if_pos (.inl hh)]
        clear HC3 e1
        rcases h12 with rfl | rfl
        all_goals
          go_wp2_with fail
          go_ret
          exact ⟨by rw [HC4.out]; rfl, HB2.out⟩
  · have HC2 : Hid (r = 160) := by
      show _ = _
      rw [HC.out, if_pos (by omega)]
    have e1 : (mk != 1) = true := bne_iff_ne.2 (by omega)
    have e2 : (mk != 2) = true := bne_iff_ne.2 (by omega)
    clear HC h12
    generalize (if (parts mp).isNone = true then (20 : Int) else 0) = er
    go_wp2_with fail
    go_ret
    exact ⟨by rw [HC2.out]; rfl, HB2.out⟩
end Go.Proofs.YtjnbflhpboheiaaDoor
