/-
  wire.Number and althingref01.Number: reading one number.
-/
import Derived.Test.YtimickmlmlihpaaDoorNum
import Derived.Test.YtimickmlmlihpaaDoorDecP
namespace Go.Proofs.YtimickmlmlihpaaDoor
open Go.RowKit
set_option maxRecDepth 20000

set_option maxHeartbeats 800000 in
theorem wire_number (v : Value) (l : List UInt8) (n : Int) (w : World) (hv : IsBytes w v l) :
    Calls Tryd.prog 32 #[v, .int .i64 n] w fun e w' => e = .returned (.tuple #[.int .i64 (decodeAt l n).1, .int .i64 (decodeAt l n).2.1, .int .i64 (decodeAt l n).2.2]) ∧ w = w' := by
  obtain ⟨a, c, rfl, hr, h0, h1, h2⟩ := hv
  by_cases hn0 : 0 ≤ n
  rotate_left
  · have hd : Hid (decodeAt l n = (0, 0, 11)) := by unfold decodeAt; exact if_neg (by omega)
    rw [hd.out]
    go_enter Tryd.func32, Tryd.ntmps32
    go_wp2
    go_ret3
    exact ⟨rfl, rfl⟩
  by_cases hnl : n ≤ l.length
  rotate_left
  · have hd : Hid (decodeAt l n = (0, 0, 11)) := by unfold decodeAt; exact if_neg (by omega)
    rw [hd.out]
    go_enter Tryd.func32, Tryd.ntmps32
    go_wp2
    go_ret3
    exact ⟨rfl, rfl⟩
  obtain ⟨m, rfl⟩ := Int.eq_ofNat_of_zero_le hn0
  have hml : m ≤ l.length := by omega
  by_cases hm : m = l.length
  · subst hm
    have hd : Hid (decodeAt l l.length = (0, 0, 12)) := by
      unfold decodeAt
      rw [if_pos ⟨by omega, by omega⟩]
      simp [decode, fe, Hid]
    rw [hd.out]
    go_enter Tryd.func32, Tryd.ntmps32
    go_wp2_with fail
    all_goals
      refine wp_loop_rounds 1 ?_
      rw [rounds_succ]
      go_wp2
      go_ret3
      exact ⟨rfl, rfl⟩
  have hmc : ¬ c = m := by omega
  have hlt : m < l.length := by omega
  obtain ⟨b, o, rfl, _⟩ := hr.at m (by simpa using hlt)
  have hrd := hr.drop m (a' := some ⟨b, o + m, none⟩) (fun _ b' o' e => by simp only [Option.some.injEq, Addr.mk.injEq] at e; obtain ⟨rfl, rfl, _⟩ := e; rfl)
  rw [← List.map_drop] at hrd
  have hd : decodeAt l m = if (decode (l.drop m)).2.2 = 0 then (((decode (l.drop m)).1 : Int), (m : Int) + (decode (l.drop m)).2.1, 0) else (0, 0, ((decode (l.drop m)).2.2 : Int)) := by
    unfold decodeAt
    rw [if_pos ⟨by omega, by omega⟩]; rfl
  have hrl : (l.drop m).length = l.length - m := List.length_drop
  have HD := hid hd
  have HR := hid hrd
  have HRL := hid hrl
  have hfe : Hid (decode (l.drop m) = match fe (l.drop m) 9 0 with
    | none => if (l.drop m).length < 9 then (0, 0, 12) else (0, 0, 13)
    | some i => if (0 < i ∧ ((l.drop m).getD i 0).toNat = 0) ∨ 4611686018427387904 ≤ val (l.drop m) (i + 1) then (0, 0, 13) else (val (l.drop m) (i + 1), i + 1, 0)) := rfl
  generalize l.drop m = r at HD HR HRL hfe
  clear hd hrd hrl hr h0 hm
  unfold maxLen at h2
  go_enter Tryd.func32, Tryd.ntmps32
  go_wp2_with fail
  go_loop [4, 21] (fun x i => ∃ k : Nat, i = .int .i64 k ∧ k ≤ l.length - m ∧ k ≤ 9 ∧ x = .int .i64 (val r k) ∧ Hid (fe r (9 - k) k = fe r 9 0)) (fun _ i => 9 - (intOf i).toNat)
  case atStart => exact ⟨0, rfl, Nat.zero_le _, by omega, by rw [val_zero]; rfl, rfl⟩
  case round =>
    obtain ⟨k, rfl, hk, hk9, rfl, hfk⟩ := hrel
    by_cases hkl : k < l.length - m
    · have hkr : k < r.length := by rw [HRL.out]; exact hkl
      obtain ⟨b', o', e, hcell⟩ := HR.out.at k (by simpa using hkr)
      simp only [Option.some.injEq, Addr.mk.injEq] at e
      obtain ⟨rfl, rfl, _⟩ := e
      simp only [List.getElem_map] at hcell
      have hgd : r.getD k 0 = r[k] := by simp [hkr]
      have hvs := hid (val_succ r k hkr)
      have hvl := val_lt r k
      have hfs : Hid (¬ k = 9 → fe r 9 0 = if r[k].toNat < 128 then some k else fe r (9 - (k + 1)) (k + 1)) := by
        intro hk9'
        rw [← hfk.out, show 9 - k = (9 - (k + 1)) + 1 from by omega, fe, if_pos hkr, hgd]
      rw [hgd] at hvs
      have hx := r[k].toNat_lt
      have HG := hid hgd
      generalize r[k] = x at hcell hvs hfs hx HG
      clear hgd
      by_cases hk9' : k = 9
      · subst hk9'
        have hf : Hid (fe r 9 0 = none) := hfk.out.symm
        clear hvl hx
        go_wp2_with fail
        go_ret3
        have hdd : decode r = (0, 0, 13) := by rw [hfe.out, hf.out]; simp only; rw [if_neg (by rw [HRL.out]; omega)]
        refine ⟨ret_v ?_, rfl⟩
        rw [HD.out, hdd]; rfl
      · have hk9'' : ((k : Int) == 9) = false := by rw [beq_eq_false_iff_ne]; omega
        have hand := and127 x
        have hy : x.toNat % 128 < 128 := Nat.mod_lt _ (by omega)
        have hshl := shl7 (x.toNat % 128) k hy (by omega)
        have hor := or_val r k (x.toNat % 128) hy (by omega)
        rw [← hvs.out] at hor
        have hv63 := val_lt63 r (k + 1) (by omega)
        generalize x.toNat % 128 * 128 ^ k = z at hshl hor hvs
        generalize x.toNat % 128 = y at hand hy hshl
        have hfs2 := hid (hfs.out hk9')
        have hdec : Hid (x.toNat < 128 → decode r = if (0 < k ∧ x.toNat = 0) ∨ 4611686018427387904 ≤ val r (k + 1) then (0, 0, 13) else (val r (k + 1), k + 1, 0)) := by
          intro h
          rw [hfe.out, hfs2.out, if_pos h]; simp only; rw [HG.out]
        clear hfe
        have hnext : Hid (¬ x.toNat < 128 → fe r (9 - (k + 1)) (k + 1) = fe r 9 0) := by
          intro h; rw [hfs2.out, if_neg h]
        clear hfs hfs2 hfk
        have HVS : Hid (¬ x.toNat < 128 → True) := fun _ => trivial
        obtain ⟨V, hV⟩ : ∃ V, V = val r (k + 1) := ⟨_, rfl⟩
        rw [← hV] at hor hdec hv63
        have HV := hid hV
        clear hV hvs HVS
        have hk9'' : ((k : Int) == 9) = false := by rw [beq_eq_false_iff_ne]; omega
        have HV63 := hid hv63
        clear hv63
        by_cases hx128 : x.toNat < 128
        · by_cases hz : 0 < k ∧ x.toNat = 0
          · have hdd := hid (hdec.out hx128)
            rw [if_pos (.inl hz)] at hdd
            obtain ⟨hz1, hz2⟩ := hz
            have hz3 : ((x.toNat : Int) == 0) = true := by rw [beq_iff_eq]; omega
            clear hdec hnext hz2
            go_wp2_with fail
            go_ret3
            refine ⟨ret_v ?_, rfl⟩
            rw [HD.out, hdd.out]; rfl
          · have hz3 : (((x.toNat : Int) == 0) && decide (0 < (k : Int))) = false := by
              rw [Bool.and_eq_false_iff, beq_eq_false_iff_ne, decide_eq_false_iff_not]; omega
            by_cases hbig : 4611686018427387904 ≤ V
            · have hdd := hid (hdec.out hx128)
              rw [if_pos (.inr hbig)] at hdd
              have HN : Hid (isNum V = false) := by
                show _ = _
                rw [isNum, decide_eq_false_iff_not]; omega
              have hx0 : ¬ x.toNat = 0 := by
                intro h0
                have hk0 : k = 0 := by omega
                have h := HV.out
                subst hk0
                rw [val_succ r 0 hkr, HG.out, h0, val_zero] at h
                simp at h; omega
              clear hdec hnext hbig hz hz3
              have hx1 : ((x.toNat : Int) == 0) = false := by rw [beq_eq_false_iff_ne]; omega
              go_wp2_with (go_at_call 36; refine (wire_right _ _).mono ?_; rintro e w' ⟨rfl, rfl⟩; rw [HN.out])
              go_ret3
              refine ⟨ret_v ?_, rfl⟩
              rw [HD.out, hdd.out]; rfl
            · have hdd := hid (hdec.out hx128)
              rw [if_neg (by omega)] at hdd
              have HN : Hid (isNum V = true) := by
                show _ = _
                rw [isNum, decide_eq_true_eq]; omega
              have hdd2 : Hid (decodeAt l m = ((V : Int), (m : Int) + (k + 1 : Nat), 0)) := by
                show _ = _
                rw [HD.out, hdd.out]; rfl
              clear hdec hnext HD hdd
              have hmk : m + k + 1 ≤ 9223372036854775807 := by omega
              by_cases hx0 : x.toNat = 0
              · have hk0 : ¬ 0 < k := by omega
                have hx1 : ((x.toNat : Int) == 0) = true := by rw [beq_iff_eq]; omega
                clear hx0 hz hz3 hbig
                go_wp2_with (go_at_call 36; refine (wire_right _ _).mono ?_; rintro e w' ⟨rfl, rfl⟩; rw [HN.out])
                go_ret3
                refine ⟨ret_v ?_, rfl⟩
                rw [hdd2.out]; go_num
              · have hx1 : ((x.toNat : Int) == 0) = false := by rw [beq_eq_false_iff_ne]; omega
                clear hz hz3 hbig
                go_wp2_with (go_at_call 36; refine (wire_right _ _).mono ?_; rintro e w' ⟨rfl, rfl⟩; rw [HN.out])
                go_ret3
                refine ⟨ret_v ?_, rfl⟩
                rw [hdd2.out]; go_num
        · have hnx := hid (hnext.out hx128)
          clear hdec hnext
          go_wp2_with fail
          go_round
          case rel => exact ⟨k + 1, by go_num, by omega, by omega, by rw [← HV.out], hnx⟩
          case measure => simp [intOf]; omega
    · have hfn : Hid (fe r 9 0 = none) := by
        rw [← hfk.out]
        show _ = _
        by_cases h9 : k = 9
        · subst h9; rfl
        · rw [show 9 - k = (9 - (k + 1)) + 1 from by omega, fe, if_neg (by rw [HRL.out]; omega)]
      clear hfk
      by_cases h9 : 9 ≤ l.length - m
      · have hdd : Hid (decode r = (0, 0, 13)) := by rw [hfe.out, hfn.out]; simp only; rw [if_neg (by rw [HRL.out]; omega)]; rfl
        go_wp2
        go_ret3
        refine ⟨ret_v ?_, rfl⟩
        rw [HD.out, hdd.out]; rfl
      · have hdd : Hid (decode r = (0, 0, 12)) := by rw [hfe.out, hfn.out]; simp only; rw [if_pos (by rw [HRL.out]; omega)]; rfl
        go_wp2
        go_ret3
        refine ⟨ret_v ?_, rfl⟩
        rw [HD.out, hdd.out]; rfl

set_option maxHeartbeats 1600000 in
theorem ref_number (v : Value) (l : List UInt8) (n : Int) (w : World) (hv : IsBytes w v l) :
    Calls Tryd.prog 33 #[v, .int .i64 n] w fun e w' => e = .returned (.tuple #[.int .i64 (decodeAt l n).1, .int .i64 (decodeAt l n).2.1, .int .i64 (decodeAt l n).2.2]) ∧ w = w' := by
  obtain ⟨a, c, rfl, hr, h0, h1, h2⟩ := hv
  by_cases hn0 : 0 ≤ n
  rotate_left
  · have hd : Hid (decodeAt l n = (0, 0, 11)) := by unfold decodeAt; exact if_neg (by omega)
    rw [hd.out]
    go_enter Tryd.func33, Tryd.ntmps33
    go_wp2
    go_ret3
    exact ⟨rfl, rfl⟩
  by_cases hnl : n ≤ l.length
  rotate_left
  · have hd : Hid (decodeAt l n = (0, 0, 11)) := by unfold decodeAt; exact if_neg (by omega)
    rw [hd.out]
    go_enter Tryd.func33, Tryd.ntmps33
    go_wp2
    go_ret3
    exact ⟨rfl, rfl⟩
  obtain ⟨m, rfl⟩ := Int.eq_ofNat_of_zero_le hn0
  have hml : m ≤ l.length := by omega
  have hd : decodeAt l m = if (decode (l.drop m)).2.2 = 0 then (((decode (l.drop m)).1 : Int), (m : Int) + (decode (l.drop m)).2.1, 0) else (0, 0, ((decode (l.drop m)).2.2 : Int)) := by
    unfold decodeAt
    rw [if_pos ⟨by omega, by omega⟩]; rfl
  have HD := hid hd
  have HRL := hid (show (l.drop m).length = l.length - m from List.length_drop)
  have HG : Hid (∀ k, (l.drop m).getD k 0 = l.getD (m + k) 0) := by
    intro k; simp [List.getD_eq_getElem?_getD, List.getElem?_drop]
  have hfe : Hid (decode (l.drop m) = match fe (l.drop m) 9 0 with
    | none => if (l.drop m).length < 9 then (0, 0, 12) else (0, 0, 13)
    | some i => if (0 < i ∧ ((l.drop m).getD i 0).toNat = 0) ∨ 4611686018427387904 ≤ val (l.drop m) (i + 1) then (0, 0, 13) else (val (l.drop m) (i + 1), i + 1, 0)) := rfl
  generalize l.drop m = r at HD HRL HG hfe
  have HR := hid hr
  clear hd hr h0
  unfold maxLen at h2
  have hnm : ¬ (m : Int) < 0 := by omega
  go_enter Tryd.func33, Tryd.ntmps33
  go_wp2_with fail
  go_loop [7, 8] (fun x i => ∃ (k : Nat) (z : Int), i = .int .i64 k ∧ k ≤ 9 ∧ k ≤ l.length - m ∧ x = .int .i64 z ∧ ((z = -1 ∧ Hid (fe r (9 - k) k = fe r 9 0)) ∨ ∃ j : Nat, z = j ∧ j < 9 ∧ j < l.length - m ∧ Hid (fe r 9 0 = some j))) (fun _ i => 9 - (intOf i).toNat)
  case atStart => exact ⟨0, -1, rfl, by omega, by omega, rfl, .inl ⟨rfl, rfl⟩⟩
  case round =>
    obtain ⟨k, z, rfl, hk9, hkl, rfl, hz⟩ := hrel
    by_cases hgo : k < 9 ∧ k < l.length - m ∧ z = -1
    · obtain ⟨hk9', hkl', rfl⟩ := hgo
      have hfk : Hid (fe r (9 - k) k = fe r 9 0) := by
        rcases hz with ⟨_, h⟩ | ⟨j, h, _⟩
        · exact h
        · omega
      clear hz
      obtain ⟨b, o, rfl, hcell⟩ := HR.out.at (m + k) (by simp; omega)
      simp only [List.getElem_map] at hcell
      have hgk : Hid (r.getD k 0 = l[m + k]) := by
        show _ = _
        rw [HG.out k]; simp [show m + k < l.length by omega]
      have hkr : k < r.length := by rw [HRL.out]; exact hkl'
      have hfs : Hid (fe r 9 0 = if l[m + k].toNat < 128 then some k else fe r (9 - (k + 1)) (k + 1)) := by
        show _ = _
        rw [← hfk.out, show 9 - k = (9 - (k + 1)) + 1 from by omega, fe, if_pos hkr, hgk.out]
      generalize l[m + k] = x at hcell hgk hfs
      clear hfk
      by_cases hx : x.toNat < 128
      · have hf2 : Hid (fe r 9 0 = some k) := by show _ = _; rw [hfs.out, if_pos hx]
        go_wp2_with fail
        go_round
        case rel => exact ⟨k + 1, k, by go_num, by omega, by omega, rfl, .inr ⟨k, rfl, hk9', hkl', hf2⟩⟩
        case measure => simp [intOf]; omega
      · have hf2 : Hid (fe r (9 - (k + 1)) (k + 1) = fe r 9 0) := by show _ = _; rw [hfs.out, if_neg hx]
        go_wp2_with fail
        go_round
        case rel => exact ⟨k + 1, -1, by go_num, by omega, by omega, rfl, .inl ⟨rfl, hf2⟩⟩
        case measure => simp [intOf]; omega
    · rcases hz with ⟨rfl, hfk⟩ | ⟨j, rfl, hj9, hjl, hfj⟩
      · have hfn : Hid (fe r 9 0 = none) := by
          rw [← hfk.out]
          show _ = _
          by_cases h9 : k = 9
          · subst h9; rfl
          · rw [show 9 - k = (9 - (k + 1)) + 1 from by omega, fe, if_neg (by rw [HRL.out]; omega)]
        have hkk : 9 ≤ k ∨ l.length - m ≤ k := by omega
        clear hfk hgo
        by_cases h9 : 9 ≤ l.length - m
        · have hdd : Hid (decode r = (0, 0, 13)) := by rw [hfe.out, hfn.out]; simp only; rw [if_neg (by rw [HRL.out]; omega)]; rfl
          have hk9 : ¬ k < 9 := by omega
          go_wp2_with fail
          go_ret3
          refine ⟨ret_v ?_, rfl⟩
          rw [HD.out, hdd.out]; rfl
        · have hdd : Hid (decode r = (0, 0, 12)) := by rw [hfe.out, hfn.out]; simp only; rw [if_pos (by rw [HRL.out]; omega)]; rfl
          have hk9' : k < 9 := by omega
          have hkm : ¬ m + k < l.length := by omega
          clear hkk
          go_wp2_with fail
          go_ret3
          refine ⟨ret_v ?_, rfl⟩
          rw [HD.out, hdd.out]; rfl
      · obtain ⟨b, o, rfl, hcell⟩ := HR.out.at (m + j) (by simp; omega)
        simp only [List.getElem_map] at hcell
        have hgj : Hid (r.getD j 0 = l[m + j]) := by
          show _ = _
          rw [HG.out j]; simp [show m + j < l.length by omega]
        have hjr : j < r.length := by rw [HRL.out]; exact hjl
        have hxj := (fe_lt r 9 0 j hfj.out).2.2.2
        have hdd := hid (decode_some r j hfj.out hjr (by omega))
        rw [hgj.out] at hdd hxj
        have hv63 := hid (val_lt63 r (j + 1) (by omega))
        clear hfe hfj
        generalize l[m + j] = x at hcell hgj hdd hxj
        have hjn : ¬ (j : Int) < 0 := by omega
        clear hgo
        have hk3 : (k < 9 ∧ m + k < l.length) ∨ (k < 9 ∧ ¬ m + k < l.length) ∨ ¬ k < 9 := by omega
        by_cases hb1 : 0 < j ∧ x.toNat = 0
        · rw [if_pos (.inl hb1)] at hdd
          obtain ⟨hb1, hb2⟩ := hb1
          have hb3 : ((x.toNat : Int) == 0) = true := by rw [beq_iff_eq]; omega
          clear hb2
          rcases hk3 with ⟨hka, hkb⟩ | ⟨hka, hkb⟩ | hka
          all_goals
            go_wp2_with fail
            go_ret3
            refine ⟨ret_v ?_, rfl⟩
            rw [HD.out, hdd.out]; rfl
        · by_cases hb4 : j = 8 ∧ 63 < x.toNat
          · rw [if_pos (.inr hb4)] at hdd
            obtain ⟨hb5, hb6⟩ := hb4
            have hb3 : ((x.toNat : Int) == 0) = false := by rw [beq_eq_false_iff_ne]; omega
            have hb7 : ((j : Int) == 8) = true := by rw [beq_iff_eq]; omega
            have hb8 : 0 < j := by omega
            have hcell8 := hcell
            rw [hb5] at hcell8
            have hm8 : m + 8 < l.length := by omega
            clear hb5
            rcases hk3 with ⟨hka, hkb⟩ | ⟨hka, hkb⟩ | hka
            all_goals go_wp2_with fail
            all_goals
              go_ret3
              refine ⟨ret_v ?_, rfl⟩
              rw [HD.out, hdd.out]; rfl
          · rw [if_neg (by omega)] at hdd
            have hdd2 : Hid (decodeAt l m = ((val r (j + 1) : Int), (m : Int) + (j + 1 : Nat), 0)) := by
              show _ = _
              rw [HD.out, hdd.out]; rfl
            clear HD hdd
            have hmj : m + j + 1 ≤ 9223372036854775807 := by omega
            have hvj : Hid (j < r.length) := hjr
            have ht : (Hid (j = 0) ∧ ¬ 0 < j ∧ ((j : Int) == 8) = false ∧ m + j < l.length) ∨ (Hid (j ≠ 8) ∧ 0 < j ∧ ((x.toNat : Int) == 0) = false ∧ ((j : Int) == 8) = false ∧ m + j < l.length) ∨
                (Hid (j = 8) ∧ 0 < j ∧ ((x.toNat : Int) == 0) = false ∧ ((j : Int) == 8) = true ∧ ¬ 63 < x.toNat ∧ w.cell? ⟨b, o + (m + 8), none⟩ = some (byt x) ∧ m + 8 < l.length) := by
              by_cases hj0 : j = 0
              · exact .inl ⟨hj0, by omega, by rw [beq_eq_false_iff_ne]; omega, by omega⟩
              · have hx0 : ((x.toNat : Int) == 0) = false := by rw [beq_eq_false_iff_ne]; omega
                by_cases hj8 : j = 8
                · have hcell8 := hcell
                  rw [hj8] at hcell8
                  exact .inr (.inr ⟨hj8, by omega, hx0, by rw [beq_iff_eq]; omega, by omega, hcell8, by omega⟩)
                · exact .inr (.inl ⟨hj8, by omega, hx0, by rw [beq_eq_false_iff_ne]; omega, by omega⟩)
            clear hb1 hb4
            rcases hk3 with ⟨hka, hkb⟩ | ⟨hka, hkb⟩ | hka
            all_goals
              rcases ht with ⟨_, ht1, ht2, ht3⟩ | ⟨_, ht1, ht2, ht3, ht4⟩ | ⟨_, ht1, ht2, ht3, ht4, ht5, ht6⟩
              all_goals go_wp2_with fail
              all_goals
                clear hcell
                go_loop [9, 10] (fun n i => ∃ q : Nat, q ≤ j + 1 ∧ i = .int .i64 ((q : Int) - 1) ∧ n = .int .i64 (val (r.drop q) (j + 1 - q) : Nat)) (fun _ i => ((intOf i) + 1).toNat)
                case atStart => exact ⟨j + 1, Nat.le_refl _, by go_num, by rw [Nat.sub_self, val_zero]; rfl⟩
                case round =>
                  obtain ⟨q, hq, rfl, rfl⟩ := hrel
                  cases q with
                  | zero =>
                    go_wp2_with fail
                    go_ret3
                    refine ⟨ret_v ?_, rfl⟩
                    rw [hdd2.out]; go_num
                  | succ q =>
                    have hqr : q < r.length := by have := hvj.out; omega
                    obtain ⟨b', o', e, hcell⟩ := HR.out.at (m + q) (by rw [List.length_map]; have := HRL.out; omega)
                    simp only [Option.some.injEq, Addr.mk.injEq] at e
                    obtain ⟨rfl, rfl, _⟩ := e
                    simp only [List.getElem_map] at hcell
                    have hlq : m + q < l.length := by have := HRL.out; omega
                    have hgq : r.getD q 0 = l[m + q] := by rw [HG.out q]; simp [hlq]
                    have hvd := hid (val_drop r q (j - q) hqr)
                    have hvb := val_lt (r.drop (q + 1)) (j - q)
                    have hp : (128 : Nat) ^ (j - q) ≤ 128 ^ 8 := Nat.pow_le_pow_right (by omega) (by omega)
                    rw [hgq] at hvd
                    generalize l[m + q] = y at hcell hvd
                    have he : j + 1 - (q + 1) = j - q := by omega
                    have he2 : j + 1 - q = j - q + 1 := by omega
                    rw [he]
                    have hvd2 : Hid (val (r.drop q) (j + 1 - q) = y.toNat % 128 + 128 * val (r.drop (q + 1)) (j - q)) := by rw [he2]; exact hvd
                    have hN : val (r.drop (q + 1)) (j - q) ≤ 72057594037927935 := by omega
                    generalize val (r.drop (q + 1)) (j - q) = N at hN hvd2 hvb
                    clear hvb hp he he2 hgq hvd
                    have hq1 : ((q + 1 : Nat) : Int) - 1 = (q : Int) := by omega
                    rw [hq1]
                    clear hq1
                    have hy := y.toNat_lt
                    go_wp2_with fail
                    go_round
                    case rel => exact ⟨q, by omega, rfl, by rw [hvd2.out]; go_num⟩
                    case measure => simp [intOf]
end Go.Proofs.YtimickmlmlihpaaDoor
