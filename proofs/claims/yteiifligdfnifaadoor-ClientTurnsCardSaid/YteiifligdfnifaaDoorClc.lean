/-
  The document's Right; awake.
-/
import Derived.Test.YteiifligdfnifaaDoorClb
namespace Go.Proofs.YteiifligdfnifaaDoor
open Go.RowKit
set_option maxRecDepth 20000
set_option linter.unusedVariables false

def BoolR (e : Ending) (P : Prop) : Prop := ∃ b, e = .returned (.bool b) ∧ Hid (b = true ↔ P)
set_option maxHeartbeats 2000000 in
theorem cl_right (c : Cfg) (w : World) (hr : RowAt w c.sa (c.S.map (Value.int .i64))) (hm : c.S.length ≤ 140737488355328) : Calls Tryd.prog 8 #[cfR c] w fun e w' => BoolR e (RightC c) ∧ Below w.heap.size w w' := by
  obtain ⟨home, nonce, lease, S, sa, sc, pat, p, q⟩ := c
  unfold cfR
  simp only at hr hm ⊢
  have HC := hid (ObjAt.new w 34 #[.string ⟨home.toArray⟩, .int .i64 nonce, .int .i64 lease, .int .i64 pat, .slice sa S.length sc, .int .i64 p, .int .i64 q])
  have HB := hid (below_new (w := w) (.cells #[.string ⟨home.toArray⟩, .int .i64 nonce, .int .i64 lease, .int .i64 pat, .slice sa S.length sc, .int .i64 p, .int .i64 q] 34))
  have HR := hid (hr.below HB.out)
  clear hr
  go_enter Tryd.func8, Tryd.ntmps8
  go_upto_region 1 with fail
  generalize w.heap.size = kb at HC ⊢
  generalize w.alloc (.cells #[.string ⟨home.toArray⟩, .int .i64 nonce, .int .i64 lease, .int .i64 pat, .slice sa S.length sc, .int .i64 p, .int .i64 q] 34) = W0 at *
  have c0 := HC.out.cell 0 (.string ⟨home.toArray⟩) rfl
  have c1 := HC.out.cell 1 (.int .i64 nonce) rfl
  have c2 := HC.out.cell 2 (.int .i64 lease) rfl
  have c3 := HC.out.cell 3 (.int .i64 pat) rfl
  have c4 := HC.out.cell 4 (.slice sa S.length sc) rfl
  have c5 := HC.out.cell 5 (.int .i64 p) rfl
  have c6 := HC.out.cell 6 (.int .i64 q) rfl
  go_wp2_with fail
  go_loop [3] (fun i => ∃ k : Nat, i = .int .i64 k ∧ k ≤ S.length ∧ Hid (∀ (j : Nat) (hj : j < S.length), j < k → badS S[j] = false)) (fun i => S.length - (intOf i).toNat)
  case atStart => exact ⟨0, rfl, Nat.zero_le _, fun j _ h => absurd h (Nat.not_lt_zero _)⟩
  case round =>
    obtain ⟨k, rfl, hk, HT⟩ := hrel
    by_cases hlt : k < S.length
    · obtain ⟨b, o, rfl, hc⟩ := HR.out.at k (by simpa using hlt)
      simp only [List.getElem_map] at hc
      have H2 : Hid (badS S[k] = false → ∀ (j : Nat) (hj : j < S.length), j < k + 1 → badS S[j] = false) := fun h j hj hjk => by
        rcases Nat.lt_or_ge j k with g | g
        · exact HT.out j hj g
        · obtain rfl : j = k := by omega
          exact h
      have H1 : Hid (badS S[k] = true → ¬ RightC ⟨home, nonce, lease, S, some ⟨b, o, none⟩, sc, pat, p, q⟩) := fun h hr => by
        have h1 := List.any_eq_false.1 hr.2.2.2.2.2.1 S[k] (List.getElem_mem hlt)
        exact h1 h
      clear HT HR
      generalize S[k] = x at *
      by_cases hx0 : x < 0
      · have HX := hid (H1.out (by unfold badS; simp; omega))
        clear H1 H2
        go_wp2_with fail
        go_ret
        exact ⟨⟨_, rfl, hid ⟨fun h => (by cases h), fun h => absurd h HX.out⟩⟩, HB.out⟩
      · by_cases hx1 : 31 < x
        · have HX := hid (H1.out (by unfold badS; simp; omega))
          clear H1 H2
          go_wp2_with fail
          go_ret
          exact ⟨⟨_, rfl, hid ⟨fun h => (by cases h), fun h => absurd h HX.out⟩⟩, HB.out⟩
        · have HX := hid (H2.out (by unfold badS; simp; omega))
          clear H1 H2
          go_wp2_with fail
          go_round
          case rel => exact ⟨k + 1, by go_num, by omega, HX⟩
          case measure => simp [intOf]; omega
    · obtain rfl : k = S.length := by omega
      have HANY : Hid (S.any badS = false) := by
        refine hid (List.any_eq_false.2 fun x hx => ?_)
        obtain ⟨j, hj, rfl⟩ := List.getElem_of_mem hx
        rw [HT.out j hj hj]; decide
      clear HT HR hlt hk
      have HNM := hid (ref_name ⟨home.toArray⟩ W0)
      rw [show nameOk (bl ⟨home.toArray⟩) = nameOk home from rfl] at HNM
      have HNO : Hid (∀ P : Prop, (RightC ⟨home, nonce, lease, S, sa, sc, pat, p, q⟩ → P) → ¬ P → ((false = true) ↔ RightC ⟨home, nonce, lease, S, sa, sc, pat, p, q⟩)) := hid (fun P h hp => ⟨fun h => (by cases h), fun hr => absurd (h hr) hp⟩)
      cases hN : nameOk home with
      | false =>
        rw [hN] at HNM
        have HE := hid (HNO.out (nameOk home = true) (fun h => h.2.1) (by rw [hN]; decide))
        clear HNO hN HANY
        go_wp2_with (refine HNM.out.mono ?_; rintro e w2 ⟨rfl, rfl⟩)
        go_ret
        exact ⟨⟨_, rfl, HE⟩, HB.out⟩
      | true =>
        rw [hN] at HNM
        have HN := hid hN
        clear hN
        by_cases h1 : 1 ≤ nonce
        rotate_left
        · have HE := hid (HNO.out (1 ≤ nonce) (fun h => h.2.2.1.1) h1)
          clear HNO HANY HN
          go_wp2_with (refine HNM.out.mono ?_; rintro e w2 ⟨rfl, rfl⟩)
          go_ret
          exact ⟨⟨_, rfl, HE⟩, HB.out⟩
        by_cases h2 : nonce ≤ 1099511627776
        rotate_left
        · have HE := hid (HNO.out (nonce ≤ 1099511627776) (fun h => h.2.2.1.2) h2)
          clear HNO HANY HN
          go_wp2_with (refine HNM.out.mono ?_; rintro e w2 ⟨rfl, rfl⟩)
          go_ret
          exact ⟨⟨_, rfl, HE⟩, HB.out⟩
        by_cases h3 : 1 ≤ lease
        rotate_left
        · have HE := hid (HNO.out (1 ≤ lease) (fun h => h.2.2.2.1.1) h3)
          clear HNO HANY HN
          go_wp2_with (refine HNM.out.mono ?_; rintro e w2 ⟨rfl, rfl⟩)
          go_ret
          exact ⟨⟨_, rfl, HE⟩, HB.out⟩
        by_cases h4 : lease ≤ 1048576
        rotate_left
        · have HE := hid (HNO.out (lease ≤ 1048576) (fun h => h.2.2.2.1.2) h4)
          clear HNO HANY HN
          go_wp2_with (refine HNM.out.mono ?_; rintro e w2 ⟨rfl, rfl⟩)
          go_ret
          exact ⟨⟨_, rfl, HE⟩, HB.out⟩
        by_cases h5 : 1 ≤ (S.length : Int)
        rotate_left
        · have HE := hid (HNO.out (1 ≤ (S.length : Int)) (fun h => by have h9 : 1 ≤ S.length := h.2.2.2.2.1.1; omega) h5)
          clear HNO HANY HN
          go_wp2_with (refine HNM.out.mono ?_; rintro e w2 ⟨rfl, rfl⟩)
          go_ret
          exact ⟨⟨_, rfl, HE⟩, HB.out⟩
        by_cases h6 : (S.length : Int) ≤ 8
        rotate_left
        · have HE := hid (HNO.out ((S.length : Int) ≤ 8) (fun h => by have h9 : S.length ≤ 8 := h.2.2.2.2.1.2; omega) h6)
          clear HNO HANY HN
          go_wp2_with (refine HNM.out.mono ?_; rintro e w2 ⟨rfl, rfl⟩)
          go_ret
          exact ⟨⟨_, rfl, HE⟩, HB.out⟩
        by_cases h7 : 1 ≤ pat
        rotate_left
        · have HE := hid (HNO.out (1 ≤ pat) (fun h => h.2.2.2.2.2.2.1) h7)
          clear HNO HANY HN
          go_wp2_with (refine HNM.out.mono ?_; rintro e w2 ⟨rfl, rfl⟩)
          go_ret
          exact ⟨⟨_, rfl, HE⟩, HB.out⟩
        by_cases h8 : pat ≤ 1048576
        rotate_left
        · have HE := hid (HNO.out (pat ≤ 1048576) (fun h => h.2.2.2.2.2.2.2) h8)
          clear HNO HANY HN
          go_wp2_with (refine HNM.out.mono ?_; rintro e w2 ⟨rfl, rfl⟩)
          go_ret
          exact ⟨⟨_, rfl, HE⟩, HB.out⟩
        have HRR := hid (ref_right p q W0)
        have HRC : Hid (∀ b, decide (RightD p q) = b → (b = true ↔ RightC ⟨home, nonce, lease, S, sa, sc, pat, p, q⟩)) := hid (fun b hb => by
          rw [← hb, decide_eq_true_iff]
          exact ⟨fun hd => ⟨hd, HN.out, ⟨h1, h2⟩, ⟨h3, h4⟩, (by show 1 ≤ S.length ∧ S.length ≤ 8; omega), HANY.out, ⟨h7, h8⟩⟩, fun h => h.1⟩)
        generalize decide (RightD p q) = rb at *
        have HE := hid (HRC.out rb rfl)
        clear HNO HANY HN HRC
        go_wp2_with (first | (refine HNM.out.mono ?_; rintro e w2 ⟨rfl, rfl⟩) | (refine HRR.out.mono ?_; rintro e w2 ⟨rfl, rfl⟩))
        go_ret
        exact ⟨⟨_, rfl, HE⟩, HB.out⟩

theorem c0_right (a : Option Addr) : RightC (C0 a) := by
  refine ⟨?_, (by decide +kernel : nameOk [97] = true), ⟨(by decide : (1 : Int) ≤ 5), (by decide : (5 : Int) ≤ 1099511627776)⟩, ⟨(by decide : (1 : Int) ≤ 100), (by decide : (100 : Int) ≤ 1048576)⟩, ⟨(by decide : 1 ≤ 3), (by decide : 3 ≤ 8)⟩, (by decide : [0, 1, 2].any badS = false), ⟨(by decide : (1 : Int) ≤ 10), (by decide : (10 : Int) ≤ 1048576)⟩⟩
  show RightD 2 1
  unfold RightD
  decide
set_option maxHeartbeats 2000000 in
theorem cl_awake (w : World) : Calls Tryd.prog 10 #[] w fun e w' => e = .returned (.bool true) ∧ Below w.heap.size w w' := by
  go_enter Tryd.func10, Tryd.ntmps10
  go_wp2_with fail
  refine (cl_usual w).mono ?_
  rintro e1 w1 ⟨a, rfl, hr1, hb1⟩
  have HB1 := hid hb1
  have HR1 := hid hr1
  clear hb1 hr1
  unfold cfA
  go_wp2_with fail
  refine (cl_new (C0 (some a)) w1 HR1.out (fun e => by cases e) (by show 3 ≤ 140737488355328; decide)).mono ?_
  rintro e2 w2 ⟨hb2, hc2⟩
  rcases hc2 with ⟨-, cb, hp, sv, rfl, hcl, hh, h1, h2, h3⟩ | ⟨hn, -⟩
  rotate_left
  · exact absurd (c0_right _) hn
  have HB2 := hid (HB1.out.trans (hb2.mono HB1.out.size))
  have HCL := hid hcl
  have HGE : Hid (w.heap.size ≤ cb) := hid (Nat.le_trans HB1.out.size h1)
  clear hb2 hcl hh h1 h2 h3 HB1
  go_wp2_with fail
  refine (cl_open cb (clNew (C0 (some a)) hp sv) [0, 1, 2] [] 0 0 5 100 (by decide) rfl w2 HCL.out rfl rfl (by decide) (by decide) (by show 1 ≤ 32; decide) rfl (by decide) (by show (0 : Int) ≤ 0; decide) (by show (0 : Int) ≤ 1099511627776; decide) (by show (0 : Int) ≤ 5; decide) rfl (by decide) (by decide) (by show (0 : Int) ≤ 0; decide) (by show (0 : Int) ≤ 1099511627776; decide)).mono ?_
  rintro e3 w3 ⟨bv, v, rfl, hov, hcl3, hk3⟩
  have HCL3 : Hid (ClAt w3 cb ⟨hp, 0, 0, 0, true, 1, callO [97] 5 100, bv, 0, 0, false, [97], 5, 100, sv, 10, 2, 1, 0, 1⟩ [0, 1, 2] (openB [97] 5 100)) := hid hcl3
  have HB3 : Hid (Below w.heap.size w w3) := hid (HB2.out.trans (hk3.below (fun j hj => by rw [hj]; exact HGE.out) HB2.out.size))
  obtain ⟨va, vc, rfl, -, -⟩ := owns_row hov
  clear hov hcl3 hk3 HB2 HCL HR1
  have HLEN : Hid ((openB [97] 5 100).length ≤ 1000) := hid (by decide +kernel)
  rw [show (clNew (C0 (some a)) hp sv).seq + 1 = 1 from rfl, show ([0, 1, 2] : List Int).getD 0 0 = 0 from rfl]
  generalize (openB (clNew (C0 (some a)) hp sv).home 5 100).length = L3
  have HS3 := hid (ObjAt.new w3 39 #[.int .i64 0, .int .i64 1, .slice va L3 vc])
  have HBS := hid (below_new (w := w3) (.cells #[.int .i64 0, .int .i64 1, .slice va L3 vc] 39))
  have HCL4 := hid (HCL3.out.below HBS.out)
  have HB4 := hid (HB3.out.trans (HBS.out.mono HB3.out.size))
  clear HB3 HCL3
  go_upto_region 5 with fail
  generalize w3.heap.size = sb at *
  generalize w3.alloc (.cells #[.int .i64 0, .int .i64 1, .slice va L3 vc] 39) = W4 at *
  go_wp2_with fail
  refine (cl_tick cb _ [0, 1, 2] (openB [97] 5 100) 10 W4 0 1 HCL4.out rfl (by decide) (by decide) (by show (0 : Int) ≤ 10; decide) (fun _ => by show (10 : Int) ≤ 10 - 0; decide) (by show (0 : Int) ≤ 0; decide) (by decide) rfl (by decide) HLEN.out (by decide)).mono ?_
  rintro e5 w5 ⟨v5, rfl, hov5, hcl5, hk5⟩
  have HCL5 : Hid (ClAt w5 cb ⟨hp, 0, 0, 0, true, 1, callO [97] 5 100, bv, 0, 10, false, [97], 5, 100, sv, 10, 2, 1, 1, 1⟩ [0, 1, 2] (openB [97] 5 100)) := hid hcl5
  have HB5 : Hid (Below w.heap.size w w5) := hid (HB4.out.trans (hk5.below (fun j hj => by rw [hj]; exact HGE.out) HB4.out.size))
  have HS5 : Hid (ObjAt w5 sb 39 #[.int .i64 0, .int .i64 1, .slice va L3 vc]) := hid (HS3.out.keptS hk5 (fun e => HS3.out.ne_obj HCL4.out.obj (by decide) e))
  obtain ⟨ua, uc, rfl, -, -⟩ := owns_row hov5
  clear hov5 hcl5 hk5 HB4 HCL4 HS3 HBS
  rw [show ([0, 1, 2] : List Int).getD 1 0 = 1 from rfl]
  simp only
  generalize (openB [97] 5 100).length = L5 at *
  have HT5 := hid (ObjAt.new w5 39 #[.int .i64 1, .int .i64 1, .slice ua L5 uc])
  have HBT := hid (below_new (w := w5) (.cells #[.int .i64 1, .int .i64 1, .slice ua L5 uc] 39))
  have HCL6 := hid (HCL5.out.below HBT.out)
  have HS6 := hid (HS5.out.below HBT.out)
  have HB6 := hid (HB5.out.trans (HBT.out.mono HB5.out.size))
  clear HB5 HCL5 HS5
  go_upto_region 6 with fail
  generalize w5.heap.size = tb at *
  generalize w5.alloc (.cells #[.int .i64 1, .int .i64 1, .slice ua L5 uc] 39) = W6 at *
  have s0 := HS6.out.cell 0 (.int .i64 0) rfl
  have s1 := HS6.out.cell 1 (.int .i64 1) rfl
  have t0 := HT5.out.cell 0 (.int .i64 1) rfl
  have t1 := HT5.out.cell 1 (.int .i64 1) rfl
  have HW := hid (cl_waits cb _ _ _ W6 HCL6.out)
  simp only at HW
  go_wp2_with (refine HW.out.mono ?_; rintro e7 w7 ⟨rfl, rfl⟩)
  go_ret
  exact ⟨rfl, HB6.out⟩
end Go.Proofs.YteiifligdfnifaaDoor
