/-
  wire.Number and althingref01.Number: reading one number.
-/
import Derived.Test.YteiifligdfnifaaDoorNum
import Derived.Test.YteiifligdfnifaaDoorDecP
namespace Go.Proofs.YteiifligdfnifaaDoor
open Go.RowKit
set_option maxRecDepth 20000

set_option maxHeartbeats 800000 in
theorem wire_number (v : Value) (l : List UInt8) (n : Int) (w : World) (hv : IsBytes w v l) :
    Calls Tryd.prog 57 #[v, .int .i64 n] w fun e w' => e = .returned (.tuple #[.int .i64 (decodeAt l n).1, .int .i64 (decodeAt l n).2.1, .int .i64 (decodeAt l n).2.2]) ∧ w = w' := by
  obtain ⟨a, c, rfl, hr, h0, h1, h2⟩ := hv
  by_cases hn0 : 0 ≤ n
  rotate_left
  · have hd : Hid (decodeAt l n = (0, 0, 11)) := by unfold decodeAt; exact if_neg (by omega)
    rw [hd.out]
    go_enter Tryd.func57, Tryd.ntmps57
    go_wp2
    go_ret3
    exact ⟨rfl, rfl⟩
  by_cases hnl : n ≤ l.length
  rotate_left
  · have hd : Hid (decodeAt l n = (0, 0, 11)) := by unfold decodeAt; exact if_neg (by omega)
    rw [hd.out]
    go_enter Tryd.func57, Tryd.ntmps57
    go_wp2
    go_ret3
    exact ⟨rfl, rfl⟩
  obtain ⟨m, rfl⟩ := Int.eq_ofNat_of_zero_le hn0
  have hml : m ≤ l.length := by omega
  by_cases hm : m = l.length
  · subst hm
    have hd : Hid (decodeAt l l.length = (0, 0, 12)) := by
      unfold decodeAt
      rw [if_pos ⟨by omega, by omega⟩]
      simp [decode, fe, Hid]
    rw [hd.out]
    go_enter Tryd.func57, Tryd.ntmps57
    go_wp2_with fail
    all_goals
      refine wp_loop_rounds 1 ?_
      rw [rounds_succ]
      go_wp2
      go_ret3
      exact ⟨rfl, rfl⟩
  have hmc : ¬ c = m := by omega
  have hlt : m < l.length := by omega
  obtain ⟨b, o, rfl, _⟩ := hr.at m (by simpa using hlt)
  have hrd := hr.drop m (a' := some ⟨b, o + m, none⟩) (fun _ b' o' e => by simp only [Option.some.injEq, Addr.mk.injEq] at e; obtain ⟨rfl, rfl, _⟩ := e; rfl)
  rw [← List.map_drop] at hrd
  have hd : decodeAt l m = if (decode (l.drop m)).2.2 = 0 then (((decode (l.drop m)).1 : Int), (m : Int) + (decode (l.drop m)).2.1, 0) else (0, 0, ((decode (l.drop m)).2.2 : Int)) := by
    unfold decodeAt
    rw [if_pos ⟨by omega, by omega⟩]; rfl
  have hrl : (l.drop m).length = l.length - m := List.length_drop
  have HD := hid hd
  have HR := hid hrd
  have HRL := hid hrl
  have hfe : Hid (decode (l.drop m) = match fe (l.drop m) 9 0 with
    | none => if (l.drop m).length < 9 then (0, 0, 12) else (0, 0, 13)
    | some i => if (0 < i ∧ ((l.drop m).getD i 0).toNat = 0) ∨ 4611686018427387904 ≤ val (l.drop m) (i + 1) then (0, 0, 13) else (val (l.drop m) (i + 1), i + 1, 0)) := rfl
  generalize l.drop m = r at HD HR HRL hfe
  clear hd hrd hrl hr h0 hm
  unfold maxLen at h2
  go_enter Tryd.func57, Tryd.ntmps57
  go_wp2_with fail
  go_loop [4, 21] (fun x i => ∃ k : Nat, i = .int .i64 k ∧ k ≤ l.length - m ∧ k ≤ 9 ∧ x = .int .i64 (val r k) ∧ Hid (fe r (9 - k) k = fe r 9 0)) (fun _ i => 9 - (intOf i).toNat)
  case atStart => exact ⟨0, rfl, Nat.zero_le _, by omega, by rw [val_zero]; rfl, rfl⟩
  case round =>
    obtain ⟨k, rfl, hk, hk9, rfl, hfk⟩ := hrel
    by_cases hkl : k < l.length - m
    · have hkr : k < r.length := by rw [HRL.out]; exact hkl
      obtain ⟨b', o', e, hcell⟩ := HR.out.at k (by simpa using hkr)
      simp only [Option.some.injEq, Addr.mk.injEq] at e
      obtain ⟨rfl, rfl, _⟩ := e
      simp only [List.getElem_map] at hcell
      have hgd : r.getD k 0 = r[k] := by simp [hkr]
      have hvs := hid (val_succ r k hkr)
      have hvl := val_lt r k
      have hfs : Hid (¬ k = 9 → fe r 9 0 = if r[k].toNat < 128 then some k else fe r (9 - (k + 1)) (k + 1)) := by
        intro hk9'
        rw [← hfk.out, show 9 - k = (9 - (k + 1)) + 1 from by omega, fe, if_pos hkr, hgd]
      rw [hgd] at hvs
      have hx := r[k].toNat_lt
      have HG := hid hgd
      generalize r[k] = x at hcell hvs hfs hx HG
      clear hgd
      by_cases hk9' : k = 9
      · subst hk9'
        have hf : Hid (fe r 9 0 = none) := hfk.out.symm
        clear hvl hx
        go_wp2_with fail
        go_ret3
        have hdd : decode r = (0, 0, 13) := by rw [hfe.out, hf.out]; simp only; rw [if_neg (by rw [HRL.out]; omega)]
        refine ⟨ret_v ?_, rfl⟩
        rw [HD.out, hdd]; rfl
      · have hk9'' : ((k : Int) == 9) = false := by rw [beq_eq_false_iff_ne]; omega
        have hand := and127 x
        have hy : x.toNat % 128 < 128 := Nat.mod_lt _ (by omega)
        have hshl := shl7 (x.toNat % 128) k hy (by omega)
        have hor := or_val r k (x.toNat % 128) hy (by omega)
        rw [← hvs.out] at hor
        have hv63 := val_lt63 r (k + 1) (by omega)
        generalize x.toNat % 128 * 128 ^ k = z at hshl hor hvs
        generalize x.toNat % 128 = y at hand hy hshl
        have hfs2 := hid (hfs.out hk9')
        have hdec : Hid (x.toNat < 128 → decode r = if (0 < k ∧ x.toNat = 0) ∨ 4611686018427387904 ≤ val r (k + 1) then (0, 0, 13) else (val r (k + 1), k + 1, 0)) := by
          intro h
          rw [hfe.out, hfs2.out, if_pos h]; simp only; rw [HG.out]
        clear hfe
        have hnext : Hid (¬ x.toNat < 128 → fe r (9 - (k + 1)) (k + 1) = fe r 9 0) := by
          intro h; rw [hfs2.out, if_neg h]
        clear hfs hfs2 hfk
        have HVS : Hid (¬ x.toNat < 128 → True) := fun _ => trivial
        obtain ⟨V, hV⟩ : ∃ V, V = val r (k + 1) := ⟨_, rfl⟩
        rw [← hV] at hor hdec hv63
        have HV := hid hV
        clear hV hvs HVS
        have hk9'' : ((k : Int) == 9) = false := by rw [beq_eq_false_iff_ne]; omega
        have HV63 := hid hv63
        clear hv63
        by_cases hx128 : x.toNat < 128
        · by_cases hz : 0 < k ∧ x.toNat = 0
          · have hdd := hid (hdec.out hx128)
            rw [if_pos (.inl hz)] at hdd
            obtain ⟨hz1, hz2⟩ := hz
            have hz3 : ((x.toNat : Int) == 0) = true := by rw [beq_iff_eq]; omega
            clear hdec hnext hz2
            go_wp2_with fail
            go_ret3
            refine ⟨ret_v ?_, rfl⟩
            rw [HD.out, hdd.out]; rfl
          · have hz3 : (((x.toNat : Int) == 0) && decide (0 < (k : Int))) = false := by
              rw [Bool.and_eq_false_iff, beq_eq_false_iff_ne, decide_eq_false_iff_not]; omega
            by_cases hbig : 4611686018427387904 ≤ V
            · have hdd := hid (hdec.out hx128)
              rw [if_pos (.inr hbig)] at hdd
              have HN : Hid (isNum V = false) := by
                show _ = _
                rw [isNum, decide_eq_false_iff_not]; omega
              have hx0 : ¬ x.toNat = 0 := by
                intro h0
                have hk0 : k = 0 := by omega
                have h := HV.out
                subst hk0
                rw [val_succ r 0 hkr, HG.out, h0, val_zero] at h
                simp at h; omega
              clear hdec hnext hbig hz hz3
              have hx1 : ((x.toNat : Int) == 0) = false := by rw [beq_eq_false_iff_ne]; omega
              go_wp2_with (go_at_call 66; refine (wire_right _ _).mono ?_; rintro e w' ⟨rfl, rfl⟩; rw [HN.out])
              go_ret3
              refine ⟨ret_v ?_, rfl⟩
              rw [HD.out, hdd.out]; rfl
            · have hdd := hid (hdec.out hx128)
              rw [if_neg (by omega)] at hdd
              have HN : Hid (isNum V = true) := by
                show _ = _
                rw [isNum, decide_eq_true_eq]; omega
              have hdd2 : Hid (decodeAt l m = ((V : Int), (m : Int) + (k + 1 : Nat), 0)) := by
                show _ = _
                rw [HD.out, hdd.out]; rfl
              clear hdec hnext HD hdd
              have hmk : m + k + 1 ≤ 9223372036854775807 := by omega
              by_cases hx0 : x.toNat = 0
              · have hk0 : ¬ 0 < k := by omega
                have hx1 : ((x.toNat : Int) == 0) = true := by rw [beq_iff_eq]; omega
                clear hx0 hz hz3 hbig
                go_wp2_with (go_at_call 66; refine (wire_right _ _).mono ?_; rintro e w' ⟨rfl, rfl⟩; rw [HN.out])
                go_ret3
                refine ⟨ret_v ?_, rfl⟩
                rw [hdd2.out]; go_num
              · have hx1 : ((x.toNat : Int) == 0) = false := by rw [beq_eq_false_iff_ne]; omega
                clear hz hz3 hbig
                go_wp2_with (go_at_call 66; refine (wire_right _ _).mono ?_; rintro e w' ⟨rfl, rfl⟩; rw [HN.out])
                go_ret3
                refine ⟨ret_v ?_, rfl⟩
                rw [hdd2.out]; go_num
        · have hnx := hid (hnext.out hx128)
          clear hdec hnext
          go_wp2_with fail
          go_round
          case rel => exact ⟨k + 1, by go_num, by omega, by omega, by rw [← HV.out], hnx⟩
          case measure => simp [intOf]; omega
    · have hfn : Hid (fe r 9 0 = none) := by
        rw [← hfk.out]
        show _ = _
        by_cases h9 : k = 9
        · subst h9; rfl
        · rw [show 9 - k = (9 - (k + 1)) + 1 from by omega, fe, if_neg (by rw [HRL.out]; omega)]
      clear hfk
      by_cases h9 : 9 ≤ l.length - m
      · have hdd : Hid (decode r = (0, 0, 13)) := by rw [hfe.out, hfn.out]; simp only; rw [if_neg (by rw [HRL.out]; omega)]; rfl
        go_wp2
        go_ret3
        refine ⟨ret_v ?_, rfl⟩
        rw [HD.out, hdd.out]; rfl
      · have hdd : Hid (decode r = (0, 0, 12)) := by rw [hfe.out, hfn.out]; simp only; rw [if_pos (by rw [HRL.out]; omega)]; rfl
        go_wp2
        go_ret3
        refine ⟨ret_v ?_, rfl⟩
        rw [HD.out, hdd.out]; rfl

end Go.Proofs.YteiifligdfnifaaDoor
