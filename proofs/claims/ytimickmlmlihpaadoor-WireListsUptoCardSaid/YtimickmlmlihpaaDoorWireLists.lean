/-
  WireLists: any numbers, bytes and texts that are written together are read back, with nothing left. Where the arguments hold together at most 1048576 values and letters (the second form).
-/
import Derived.Test.YtimickmlmlihpaaDoorWr9
import Derived.Test.YtimickmlmlihpaaDoorRd2
import Derived.Test.YtimickmlmlihpaaDoorCopyI
import Derived.Test.YtimickmlmlihpaaDoorAwake01D
import Derived.Test.YtimickmlmlihpaaDoorDoorE
namespace Go.Proofs.YtimickmlmlihpaaDoor.wireLists
open Go.ChangeShapes Go.WideShapes Go.ChangeAt Go.RowKit
set_option maxRecDepth 100000
set_option linter.unusedVariables false

theorem off_of {w' : World} {nb : Nat} {g : Option Nat} {a : Option Addr} (hlt : ∀ ad, a = some ad → ad.block < nb) (hg : ∀ k, g = some k → nb ≤ k) : OffW w' nb g a := fun ad e _ hw => by
  have h1 := hlt ad e
  rcases hw with hw | hw
  · omega
  · have := hg _ hw; omega
theorem offv_of {w : World} {g : Option Nat} {nb : Nat} {vs : List Value} {ls : List (List UInt8)} (h : AllBytes w vs ls) (hn : w.heap.size = nb) (hg : ∀ k, g = some k → nb ≤ k) : OffV nb g vs ls := fun j v l hv hl hne k hk hw => by
  obtain ⟨a, c, rfl, hr, -⟩ := h.2 j v l hv hl
  cases a with
  | none => cases hk
  | some ad =>
    simp only [Value.ownBlock, Option.some.injEq] at hk
    have h1 := hr.lt (by intro e; exact hne (List.map_eq_nil_iff.1 e)) ad rfl
    rcases hw with hw | hw
    · omega
    · have := hg _ hw; omega
theorem wb_ge {nb : Nat} {g : Option Nat} (hg : ∀ k, g = some k → nb ≤ k) : ∀ k, WB nb g k → nb ≤ k := fun k h => by
  rcases h with h | h
  · omega
  · exact hg k h
/-- What was written is ready to be read. -/
def All (ns : List Int) (ls : List (List UInt8)) (ss : List ByteArray) : List UInt8 := encAll ns ++ (BL ls ++ BL (tls ss))

set_option maxHeartbeats 8000000 in
theorem walk (a0 : Option Addr) (c0 : Nat) (ns : List Int) (a1 : Option Addr) (c1 : Nat) (vs : List Value) (ls : List (List UInt8)) (a2 : Option Addr) (c2 : Nat) (ss : List ByteArray) (w : World) (h0 : RowAt w a0 (ns.map (Value.int .i64))) (h1 : RowAt w a1 vs) (hall : AllBytes w vs ls) (h2 : RowAt w a2 (ss.map Value.string))
    (hm0 : ns.length ≤ 1048576) (hm1 : 9 * ls.length + ls.flatten.length ≤ 33554432) (hm2 : 9 * ss.length + (tls ss).flatten.length ≤ 33554432) :
    Calls Tryd.prog 4 #[.slice a0 ns.length c0, .slice a1 ls.length c1, .slice a2 ss.length c2] w fun e w' => e = .returned (.bool true) ∧ Below w.heap.size w w' := by
  have H0 := hid h0
  have H1 := hid h1
  have H2 := hid h2
  have HA := hid hall
  have HLS : Hid (ls.length = vs.length) := hall.1.symm
  clear h0 h1 h2 hall
  go_enter Tryd.func4, Tryd.ntmps4
  go_wp2_with fail
  refine (new_writer w).mono ?_
  rintro e w1 ⟨rfl, hw, hb⟩
  have HW1 := hid hw
  have HB1 := hid hb
  generalize hnb : w.heap.size = nb at *
  have HNB := hid hnb
  have hs1 : nb < w1.heap.size := HW1.out.lt nb (.inl rfl)
  clear hw hb hnb
  go_wp2_with fail
  refine (copy_ints a0 c0 ns w1 (H0.out.below (by rw [HNB.out]; exact HB1.out)) (by omega)).mono ?_
  rintro e w2 ⟨v2, rfl, ho, hb⟩
  have HW2 := hid (HW1.out.below hb)
  have HB2 := hid (HB1.out.trans (hb.mono (by omega)))
  have HO2 := hid ho
  have hs2 : nb < w2.heap.size := Nat.lt_of_lt_of_le hs1 hb.size
  obtain ⟨a3, c3, rfl, hr3, -⟩ := owns_row ho
  have HR3 := hid hr3
  have HF3 : Hid (∀ ad, a3 = some ad → w1.heap.size ≤ ad.block) := fun ad e => (HO2.out.lt ad.block (by rw [e]; rfl)).1
  clear ho hb hr3 HW1 HB1
  go_wp2_with fail
  refine (wr_nums nb none ([], false) a3 ns c3 w2 HW2.out HR3.out (fun _ ad e _ hw => by
    have := HF3.out ad e
    rcases hw with hw | hw
    · omega
    · cases hw) (by simp only [List.length_nil]; omega)).mono ?_
  rintro e w3 ⟨rfl, g3, hw3, hk3, hg3⟩
  have HG3 : Hid (∀ k, g3 = some k → nb ≤ k) := fun k e => by
    rcases hg3 k e with h | h
    · cases h
    · omega
  have HB3 := hid (HB2.out.trans (hk3.below (wb_ge (fun k e => by cases e)) (by omega)))
  have HW3 := hid hw3
  have hs3 : nb ≤ w3.heap.size := by have := hk3.size; omega
  have hL3 := numsW_len ns ([], false)
  simp only [List.length_nil] at hL3
  clear hw3 hk3 hg3 HW2 HB2 HO2 HR3 HF3
  obtain ⟨s3, hS3⟩ : ∃ s3, s3 = numsW ([], false) ns := ⟨_, rfl⟩
  rw [← hS3] at HW3 hL3
  have HS3 := hid hS3
  clear hS3
  go_wp2_with fail
  have HBW3 : Hid (Below w.heap.size w w3) := by show Below _ _ _; rw [HNB.out]; exact HB3.out
  have t1 := hid (H1.out.below HBW3.out)
  have t2 := hid (HA.out.below HBW3.out)
  have t3 : Hid (ls ≠ [] → OffW w3 nb g3 a1) := fun hne => off_of (fun ad e => by rw [← HNB.out]; exact H1.out.lt (by intro e2; have hls := HLS.out; rw [e2] at hls; exact hne (List.eq_nil_of_length_eq_zero (by simpa using hls))) ad e) HG3.out
  have t4 : Hid (OffV nb g3 vs ls) := offv_of HA.out HNB.out HG3.out
  refine (wr_blobs nb g3 s3 a1 vs ls c1 w3 HW3.out t1.out t2.out t3.out t4.out (by omega)).mono ?_
  rintro e w4 ⟨rfl, g4, hw4, hk4, hg4⟩
  have HG4 : Hid (∀ k, g4 = some k → nb ≤ k) := fun k e => by
    rcases hg4 k e with h | h
    · exact HG3.out k h
    · omega
  have HB4 := hid (HB3.out.trans (hk4.below (wb_ge HG3.out) (by omega)))
  have HW4 := hid hw4
  have hs4 : nb ≤ w4.heap.size := by have := hk4.size; omega
  have hL4 := blobsW_len ls s3 (fun l hl => by
    have := (List.sublist_flatten_of_mem hl).length_le; omega)
  clear hw4 hk4 hg4 HW3 HB3 HG3
  obtain ⟨s4, hS4⟩ : ∃ s4, s4 = blobsW s3 ls := ⟨_, rfl⟩
  rw [← hS4] at HW4 hL4
  have HS4 := hid hS4
  clear hS4
  go_wp2_with fail
  clear t1 t2 t3 t4 HBW3
  have HBW4 : Hid (Below w.heap.size w w4) := by show Below _ _ _; rw [HNB.out]; exact HB4.out
  have t1 := hid (H2.out.below HBW4.out)
  have t3 : Hid (ss ≠ [] → OffW w4 nb g4 a2) := fun hne => off_of (fun ad e => by rw [← HNB.out]; exact H2.out.lt (by intro e2; exact hne (List.map_eq_nil_iff.1 e2)) ad e) HG4.out
  refine (wr_texts nb g4 s4 a2 ss c2 w4 HW4.out t1.out t3.out (by omega)).mono ?_
  rintro e w5 ⟨rfl, g5, hw5, hk5, hg5⟩
  have HB5 := hid (HB4.out.trans (hk5.below (wb_ge HG4.out) (by omega)))
  have HW5 := hid hw5
  have hs5 : nb ≤ w5.heap.size := by have := hk5.size; omega
  have hL5 := blobsW_len (tls ss) s4 (fun l hl => by
    have := (List.sublist_flatten_of_mem hl).length_le; omega)
  rw [show (tls ss).length = ss.length from by unfold tls; simp] at hL5
  clear hw5 hk5 hg5 HW4 HB4 HG4
  obtain ⟨s5, hS5⟩ : ∃ s5, s5 = blobsW s4 (tls ss) := ⟨_, rfl⟩
  rw [← hS5] at HW5 hL5
  have HS5 : Hid (s5 = blobsW (blobsW (numsW ([], false) ns) ls) (tls ss)) := by show _ = _; rw [hS5, HS4.out, HS3.out]
  clear hS5 HS4 HS3
  go_wp2_with fail
  refine (wr_out nb g5 s5 w5 HW5.out (by omega)).mono ?_
  rintro e w6 ⟨hb6, hcase⟩
  have HB6 := hid (HB5.out.trans (hb6.mono hs5))
  have hs6 : nb ≤ w6.heap.size := Nat.le_trans hs5 hb6.size
  clear hb6 HB5 HW5
  rcases hcase with ⟨hbad, rfl⟩ | ⟨hgood, v6, rfl, ho6⟩
  · have hex : ∃ k, ∃ h : k < ns.length, isNum ns[k] = false := by
      cases hx : ns.all isNum with
      | false =>
        rw [List.all_eq_false] at hx
        obtain ⟨n, hn, hnn⟩ := hx
        obtain ⟨k, hk, rfl⟩ := List.getElem_of_mem hn
        exact ⟨k, hk, by simpa using hnn⟩
      | true =>
        have e := HS5.out
        rw [numsW_good ns _ hx, blobsW_eq, blobsW_eq] at e
        rw [e] at hbad; cases hbad
    have HEX := hid hex
    have HR6 : Hid (RowAt w6 a0 (ns.map (Value.int .i64))) := H0.out.below (by rw [HNB.out]; exact HB6.out)
    clear hbad hex HS5 H1 H2 HA HLS hL3 hL4 hL5
    go_wp2_with fail
    go_loop [39] (fun i => ∃ k : Nat, i = .int .i64 k ∧ k ≤ ns.length ∧ Hid ((ns.take k).all isNum = true)) (fun i => ns.length - (intOf i).toNat)
    case atStart => exact ⟨0, rfl, Nat.zero_le _, rfl⟩
    case round =>
      obtain ⟨k, rfl, hk, HT⟩ := hrel
      by_cases hlt : k < ns.length
      · obtain ⟨x, o, rfl, hc⟩ := int_at HR6.out hlt
        have HA := hid (all_take_succ ns k hlt)
        cases hn : isNum ns[k] with
        | true =>
          rw [hn, HT.out] at HA
          have HN := hid hn
          clear hn HR6 HT
          generalize ns[k] = n at *
          go_wp2_with fail
          refine (ref_bad n w6).mono ?_
          rintro e w7 ⟨rfl, rfl⟩
          rw [HN.out]
          go_wp2
          go_round
          case rel => exact ⟨k + 1, by go_num, by omega, HA⟩
          case measure => simp [intOf]; omega
        | false =>
          have HN := hid hn
          clear hn HR6 HT HA
          generalize ns[k] = n at *
          go_wp2_with fail
          refine (ref_bad n w6).mono ?_
          rintro e w7 ⟨rfl, rfl⟩
          rw [HN.out]
          go_wp2_with fail
          refine (awake01 w6).mono ?_
          rintro e w8 ⟨rfl, hb⟩
          have HBZ := hid (HB6.out.trans (hb.mono hs6))
          clear hb
          go_wp2
          go_ret
          exact ⟨rfl, by rw [HNB.out]; exact HBZ.out⟩
      · exfalso
        obtain ⟨q, hq, hqn⟩ := HEX.out
        have h := HT.out
        rw [List.take_of_length_le (by omega), List.all_eq_true] at h
        have := h _ (List.getElem_mem hq)
        rw [hqn] at this; cases this
  · have hx : ns.all isNum = true := by
      cases hx : ns.all isNum with
      | true => rfl
      | false =>
        have e := HS5.out
        rw [blobsW_eq, blobsW_eq] at e
        rw [e] at hgood
        rw [numsW_bad ns _ hx] at hgood; cases hgood
    have HE : Hid (s5.1 = All ns ls ss) := by
      show _ = _
      rw [HS5.out, numsW_good ns _ hx, blobsW_eq, blobsW_eq]; simp [All]
    have HX := hid hx
    rw [HE.out] at ho6 hL5
    have HO6 := hid ho6
    have HR6 : Hid (RowAt w6 a0 (ns.map (Value.int .i64))) := H0.out.below (by rw [HNB.out]; exact HB6.out)
    obtain ⟨v6a, v6c, rfl, -⟩ := owns_row ho6
    have hAL : (All ns ls ss).length ≤ 134217728 := by omega
    clear hx hgood HS5 HE ho6 hL3 hL4 hL5
    go_wp2_with fail
    go_loop [39] (fun i => ∃ k : Nat, i = .int .i64 k ∧ k ≤ ns.length) (fun i => ns.length - (intOf i).toNat)
    case atStart => exact ⟨0, rfl, Nat.zero_le _⟩
    case round =>
      obtain ⟨k, rfl, hk⟩ := hrel
      by_cases hlt : k < ns.length
      · obtain ⟨x, o, rfl, hc⟩ := int_at HR6.out hlt
        have HN : Hid (isNum ns[k] = true) := List.all_eq_true.1 HX.out _ (List.getElem_mem hlt)
        clear HR6
        generalize ns[k] = n at *
        go_wp2_with fail
        refine (ref_bad n w6).mono ?_
        rintro e w7 ⟨rfl, rfl⟩
        rw [HN.out]
        go_wp2
        go_round
        case rel => exact ⟨k + 1, by go_num, by omega⟩
        case measure => simp [intOf]; omega
      · clear HR6
        go_wp2_with fail
        refine (new_reader _ _ w6 (owns_bytes HO6.out) (by omega)).mono ?_
        rintro e w7 ⟨r, rfl, hr, hb, hnr⟩
        have HR7 := hid hr
        have HB7 := hid (HB6.out.trans (hb.mono hs6))
        have hr7 : nb ≤ r := Nat.le_trans hs6 hnr
        have hs7 : nb ≤ w7.heap.size := Nat.le_trans hs6 hb.size
        have HLEN := hid hAL
        clear hr hb hnr HB6 HO6 hlt hk hAL
        go_wp2_with fail
        go_loopw [66] (fun i wr => ∃ k : Nat, i = .int .i64 k ∧ k ≤ ns.length ∧ Hid (RdAt wr r (encAll (ns.drop k) ++ (BL ls ++ BL (tls ss)), 0)) ∧ Hid (Below nb w wr)) (fun i _ => ns.length - (intOf i).toNat)
        case atStart => exact ⟨0, rfl, Nat.zero_le _, HR7, HB7⟩
        case round =>
          clear HR7 HB7
          obtain ⟨k, rfl, hk, HR, HB⟩ := hrel
          by_cases hlt : k < ns.length
          · obtain ⟨x, o, rfl, hc⟩ := int_at (H0.out.below (w' := wr) (by rw [HNB.out]; exact HB.out)) hlt
            have HN : Hid (isNum ns[k] = true) := List.all_eq_true.1 HX.out _ (List.getElem_mem hlt)
            have HD := hid (encAll_drop ns k hlt)
            generalize ns[k] = n at *
            have h2 := (isNum_iff n).1 HN.out
            obtain ⟨N, rfl⟩ : ∃ N : Nat, n = N := ⟨n.toNat, by omega⟩
            rw [Int.toNat_natCast] at HD
            rw [HD.out, List.append_assoc] at HR
            have HQ := hid (rdNum_enc (n := N) (by omega) (encAll (ns.drop (k + 1)) ++ (BL ls ++ BL (tls ss))))
            clear HN HD h2
            go_wp2_with fail
            refine (rd_num r _ wr HR.out).mono ?_
            rw [HQ.out]
            rintro e w8 ⟨rfl, h, hk8⟩
            have HR8 := hid h
            have HB8 := hid (below_kept HB.out hk8 hr7 (by have := HB.out.size; rw [HNB.out] at this; exact this))
            clear h hk8 HR HB hc HQ
            go_wp2
            go_roundw
            case rel => exact ⟨k + 1, by go_num, by omega, HR8, HB8⟩
            case measure => simp [intOf]; omega
          · have hkl : k = ns.length := by omega
            subst hkl
            rw [List.drop_length, show encAll [] = [] from rfl, List.nil_append] at HR
            have HL3 : Hid ((BL (ls.drop 0) ++ BL (tls ss)).length ≤ 134217728) := by
              show _ ≤ _
              have h := HLEN.out
              unfold All at h
              rw [List.length_append] at h
              rw [List.drop_zero]; omega
            clear hlt hk HLEN H0 HX
            go_wp2_with fail
            go_loopw [77] (fun i wr => ∃ k : Nat, i = .int .i64 k ∧ k ≤ ls.length ∧ Hid (RdAt wr r (BL (ls.drop k) ++ BL (tls ss), 0)) ∧ Hid (Below nb w wr) ∧ Hid ((BL (ls.drop k) ++ BL (tls ss)).length ≤ 134217728)) (fun i _ => ls.length - (intOf i).toNat)
            case atStart => exact ⟨0, rfl, Nat.zero_le _, HR, HB, HL3⟩
            case round =>
              clear HR HB HL3
              obtain ⟨k, rfl, hk, HR, HB, HL⟩ := hrel
              have hsr : nb ≤ wr.heap.size := by have := HB.out.size; rw [HNB.out] at this; exact this
              by_cases hlt : k < ls.length
              · have HBW : Hid (Below w.heap.size w wr) := by show Below _ _ _; rw [HNB.out]; exact HB.out
                obtain ⟨x, o, rfl, v, -, hc0, hv⟩ := bytes_at H1.out HA.out hlt
                have hc := (HBW.out.cell (p := ⟨x, o + k, none⟩) (lt_of_cell hc0)).trans hc0
                have HV := hid hv
                have HD := hid (BL_drop ls k hlt)
                generalize ls[k] = l at *
                rw [HD.out, List.append_assoc, List.append_assoc] at HR HL
                have hll : l.length ≤ 134217728 := by
                  have h := HL.out
                  simp only [List.length_append] at h; omega
                have HQ := hid (rdBlob_enc (l := l) (by omega) (BL (ls.drop (k + 1)) ++ BL (tls ss)))
                have HL2 : Hid ((BL (ls.drop (k + 1)) ++ BL (tls ss)).length ≤ 134217728) := by
                  show _ ≤ _
                  have h := HL.out
                  simp only [List.length_append] at h ⊢; omega
                clear hv HD HBW hc0
                go_wp2_with fail
                refine (rd_blob r _ wr HR.out (Nat.le_trans HL.out (by omega))).mono ?_
                rw [HQ.out]
                rintro e w8 ⟨v8, rfl, hb8, h, hk8, -⟩
                have HR8 := hid h
                have HB8 := hid (below_kept HB.out hk8 hr7 hsr)
                have HV8 := hid hb8
                have HVX : Hid (IsBytes w8 v l) := HV.out.below (by rw [HNB.out]; exact HB8.out)
                clear h hk8 HR HB hc HQ hb8 HL HV
                go_wp2_with fail
                refine (ref_same v8 v l l w8 HV8.out HVX.out).mono ?_
                rintro e w9 ⟨rfl, rfl⟩
                rw [beq_self_eq_true]
                clear HV8 HVX
                go_wp2
                go_roundw
                case rel => exact ⟨k + 1, by go_num, by omega, HR8, HB8, HL2⟩
                case measure => simp [intOf]; omega
              · have hkl : k = ls.length := by omega
                subst hkl
                rw [List.drop_length, show BL [] = [] from rfl, List.nil_append] at HR HL
                clear hlt hk HLS HA H1
                go_wp2_with fail
                go_loopw [89] (fun i wr => ∃ k : Nat, i = .int .i64 k ∧ k ≤ ss.length ∧ Hid (RdAt wr r (BL ((tls ss).drop k), 0)) ∧ Hid (Below nb w wr) ∧ Hid ((BL ((tls ss).drop k)).length ≤ 134217728)) (fun i _ => ss.length - (intOf i).toNat)
                case atStart => exact ⟨0, rfl, Nat.zero_le _, HR, HB, HL⟩
                case round =>
                  clear HR HB HL
                  obtain ⟨k, rfl, hk, HR, HB, HL⟩ := hrel
                  have hsr : nb ≤ wr.heap.size := by have := HB.out.size; rw [HNB.out] at this; exact this
                  by_cases hlt : k < ss.length
                  · have HBW : Hid (Below w.heap.size w wr) := by show Below _ _ _; rw [HNB.out]; exact HB.out
                    obtain ⟨x, o, rfl, hc⟩ := str_at (H2.out.below HBW.out) hlt
                    have hxe : (tls ss)[k]'(by unfold tls; simpa using hlt) = ss[k].data.toList := List.getElem_map _
                    have hd := BL_drop (tls ss) k (by unfold tls; simpa using hlt)
                    rw [hxe] at hd
                    have HD := hid hd
                    generalize ss[k] = t at *
                    rw [HD.out] at HR HL
                    have hll : t.data.toList.length ≤ 134217728 := by
                      have h := HL.out
                      simp only [List.length_append] at h; omega
                    have HQ := hid (rdBlob_enc (l := t.data.toList) (by omega) (BL ((tls ss).drop (k + 1))))
                    have HL2 : Hid ((BL ((tls ss).drop (k + 1))).length ≤ 134217728) := by
                      show _ ≤ _
                      have h := HL.out
                      simp only [List.length_append] at h; omega
                    have hlt' : k + 1 ≤ ss.length := hlt
                    clear HD HBW hd hxe hll
                    go_wp2_with fail
                    refine (rd_text r _ wr HR.out (Nat.le_trans HL.out (by omega))).mono ?_
                    rw [HQ.out]
                    rintro e w8 ⟨rfl, h, hk8⟩
                    have HR8 := hid h
                    have HB8 := hid (below_kept HB.out hk8 hr7 hsr)
                    rw [show (ByteArray.mk (t.data.toList, BL ((tls ss).drop (k + 1)), (0 : Int)).1.toArray) = t from by simp]
                    clear h hk8 HR HB hc HQ HL
                    go_wp2
                    go_roundw
                    case rel => exact ⟨k + 1, by go_num, by omega, HR8, HB8, HL2⟩
                    case measure => simp [intOf]; omega
                  · have hkl : k = ss.length := by omega
                    subst hkl
                    rw [List.drop_of_length_le (by unfold tls; simp), show BL [] = [] from rfl] at HR
                    clear hlt hk HL H2
                    go_wp2_with fail
                    refine (rd_left r _ wr HR.out).mono ?_
                    rintro e w8 ⟨rfl, rfl⟩
                    rw [show (([] : List UInt8), (0 : Int)).1.length = 0 from rfl]
                    go_wp2_with fail
                    refine (rd_err r _ wr HR.out).mono ?_
                    rintro e w8 ⟨rfl, rfl⟩
                    go_wp2_with fail
                    refine (awake01 wr).mono ?_
                    rintro e w8 ⟨rfl, hb⟩
                    have HBZ := hid (HB.out.trans (hb.mono hsr))
                    clear hb HB HR
                    go_wp2
                    go_ret
                    exact ⟨rfl, by rw [HNB.out]; exact HBZ.out⟩

def T : Ty := .pair (.slice (.int .i64)) (.pair (.slice (.slice (.int .u8))) (.pair (.slice .str) .unit))
theorem blobs_of : ∀ (l : List (List Int)) (vss : List (List Value)) (w : World), vss.length = l.length → (∀ (j : Nat) v x, vss[j]? = some v → l[j]? = some x → v.length = 1 ∧ Rd w (.slice (.int .u8)) v x) →
    ∃ (vs : List Value) (ls : List (List UInt8)), vss.flatten = vs ∧ AllBytes w vs ls ∧ ls.map List.length = l.map List.length
  | [], [], w, _, _ => ⟨[], [], rfl, allBytes_nil w, rfl⟩
  | [], _ :: _, w, h, _ => by simp at h
  | _ :: _, [], w, h, _ => by simp at h
  | x :: l, v :: vss, w, h, hr => by
    obtain ⟨vs, ls, h1, h2, h3⟩ := blobs_of l vss w (by simpa using h) (fun j v x hv hx => hr (j + 1) v x hv hx)
    obtain ⟨hv1, hx⟩ := hr 0 v x rfl rfl
    obtain ⟨u, rfl⟩ : ∃ u, v = [u] := by
      match v, hv1 with
      | [u], _ => exact ⟨u, rfl⟩
    obtain ⟨bs, hl, hb, -⟩ := bytes_of_rd hx
    exact ⟨u :: vs, bs :: ls, by rw [List.flatten_cons, h1]; rfl, allBytes_cons hb h2, by rw [List.map_cons, List.map_cons, h3, hl]⟩
theorem flat_len {α β : Type} : ∀ (a : List (List α)) (b : List (List β)), a.map List.length = b.map List.length → a.flatten.length = b.flatten.length := fun a b h => by
  rw [List.length_flatten, List.length_flatten, h]
theorem blk2 {e : Ty} (h : ∀ x : e.El, 1 ≤ Blk e x) (l : List (List e.El)) : l.length + l.flatten.length ≤ Blk (.slice (.slice e)) l := by
  induction l with
  | nil => simp
  | cons x l ih =>
    have h1 := blk_slice (e := e) h x
    have h2 : Blk (.slice (.slice e)) (x :: l) = Blk (.slice e) x + Blk (.slice (.slice e)) l := by simp [Blk]; omega
    rw [h2, List.length_cons, List.flatten_cons, List.length_append]; omega
theorem walk' (W : World) (hL : laidMetH Tryd.prog Rows.wireListsRow.laid W) (hsh : W.ShapedOpen Tryd.prog) (vs : List Value) (el : T.El) (hr : ArgsRd W T vs el) (hf : Blk T el ≤ 1048576) :
    Calls Tryd.prog 4 vs.toArray W fun e w' => e = .returned (.bool true) ∧ Below W.heap.size W w' := by
  obtain ⟨v1, r1, cs1, rfl, rfl, h1, v2, r2, cs2, rfl, rfl, h2, v3, r3, cs3, rfl, rfl, h3, rfl⟩ := hr
  obtain ⟨a0, c0, rfl, _, _, _, hrow⟩ := ints_of_rd h1
  obtain ⟨a1, c1, vss, hv2, -, -, -, hl2, hr2, hx2⟩ := h2
  simp only [List.cons.injEq, and_true] at hv2
  subst hv2
  obtain ⟨vs2, ls, hfl, hall, hlen⟩ := blobs_of el.2.1 vss W hl2 hx2
  obtain ⟨a2, c2, rfl, _, _, _, hrow3⟩ := texts_of_rd h3
  have hlen1 : ls.length = el.2.1.length := by have := congrArg List.length hlen; simpa using this
  have hlen2 := flat_len _ _ hlen
  have k1 := blk_slice (e := .int .i64) (fun _ => Nat.le_refl _) el.1
  have k2 := blk2 (e := .int .u8) (fun _ => Nat.le_refl _) el.2.1
  have k3 : el.2.2.1.length + el.2.2.1.flatten.length ≤ Blk (.slice .str) el.2.2.1 := by
    generalize el.2.2.1 = l
    induction l with
    | nil => simp
    | cons x l ih =>
      have h2 : Blk (.slice .str) (x :: l) = (x.length + 1) + Blk (.slice .str) l := by simp [Blk]; omega
      rw [h2, List.length_cons, List.flatten_cons, List.length_append]; omega
  have hf' : Blk (.slice (.int .i64)) el.1 + (Blk (.slice (.slice (.int .u8))) el.2.1 + (Blk (.slice .str) el.2.2.1 + 0)) ≤ 1048576 := hf
  have ht : tls (el.2.2.1.map fun s => ByteArray.mk s.toArray) = el.2.2.1 := by unfold tls; simp [Function.comp_def]
  have hs : (el.2.2.1.map fun s => ByteArray.mk s.toArray).length = el.2.2.1.length := by simp
  have := walk a0 c0 el.1 a1 c1 vs2 ls a2 c2 (el.2.2.1.map fun s => ByteArray.mk s.toArray) W hrow (by rw [← hfl]; exact hr2) hall (by simpa [Function.comp_def] using hrow3) (by omega) (by omega) (by rw [ht, hs]; omega)
  rw [hs, hlen1] at this
  exact this

theorem own : ownKnob Tryd.prog.godebug = none := by kernel_rfl
theorem laidOut : laidOutB Tryd.prog = true := by kernel_rfl
set_option maxRecDepth 100000 in
theorem laid_met (os : Os) : laidMet Tryd.prog Rows.wireListsRow.laid ((laidWorldE os Rows.wireListsRow.laid).forCall (fun _ _ => 0) ⟨#[], #[.slice none 0 0, .slice none 0 0, .slice none 0 0], []⟩).memory :=
  laidMet_of_run' 8 (by kernel_rfl) (by kernel_rfl)
set_option maxRecDepth 100000 in
theorem reads (os : Os) {H : Type} (enc : TypeId × Value → H) : ∃ places, DataW.whole enc Tryd.prog ((laidWorldE os Rows.wireListsRow.laid).forCall (fun _ _ => 0) ⟨#[], #[.slice none 0 0, .slice none 0 0, .slice none 0 0], []⟩).memory Tryd.f4.params.toList Rows.wireListsSpec.vars false (#[.slice none 0 0, .slice none 0 0, .slice none 0 0] : Array Value).toList 8 = some ([.nil, .nil, .nil], [], places) :=
  ⟨[], by kernel_rfl⟩

set_option maxRecDepth 100000 in
theorem lifted (os : Os) (started : os.Started) (H : Type) (enc : TypeId × Value → H) (F : Stop.Interp) :
    ReturnsInHanded {} Tryd.checked os 4 .any ((Rows.OpenSpec.upto Rows.wireListsSpec).preRow enc Tryd.prog Tryd.f4 Rows.wireListsUptoRow.domain false Rows.wireListsUptoRow.laid) (((Rows.OpenSpec.upto Rows.wireListsSpec).at F).post enc Tryd.prog Tryd.f4 false true false false) := by
  obtain ⟨places, hx⟩ := reads os enc
  refine returnsInHanded_of_row (C := Tryd.checked) (s := (Rows.OpenSpec.upto Rows.wireListsSpec)) own started (by kernel_rfl) Tryd.func4
    (witness_row_at (enc := enc) (C := Tryd.checked) false (laidWorldE os Rows.wireListsRow.laid) #[.slice none 0 0, .slice none 0 0, .slice none 0 0] rfl (by kernel_rfl) (by kernel_rfl) (by kernel_rfl)
      (OpenSpec.preRow_of_cond 8 hx (by kernel_rfl) (fun k hk => by cases hk; kernel_rfl) (by kernel_rfl) (laid_met os))) ?_
  intro W base args ds gs before hval hW _ hcond hsz hL hsh _
  exact law_upto_at T (by kernel_rfl) laidOut (by kernel_rfl) rfl rfl Tryd.underlying4 (fun ds h => by
    match ds, h with
    | [d0, d1, d2], _ => rfl) W (walk' W hL hsh) base args ds gs before hval hW (hcond _ rfl)

theorem over : Rows.WireListsUptoSaid :=
  OpenClaim.holds_of_cond 4 Tryd.f4 rfl rfl rfl rfl rfl rfl rfl ⟨rfl, rfl, rfl, rfl, rfl⟩ rfl rfl rfl rfl rfl (by kernel_rfl) Tryd.func4 (by kernel_rfl)
    (of_decide_eq_true (by kernel_rfl)) (by unfold Func.isWrapper; first | (rw [if_pos (by decide +kernel)]; kernel_rfl) | (rw [if_neg (by decide +kernel)]; exact ⟨rfl, rfl⟩))
    (fun os started H enc _ F => by rw [OpenClaim.pre_eq_preRow]; exact lifted os started H enc F)

theorem bare (f : FuncId) (fn : Func) (hf : Tryd.pinned.checked.prog.funcNamed "althing/althinglaw01.WireLists" = some f) (hfn : Tryd.pinned.checked.prog.funcs[f]? = some fn) :
    false = Tryd.pinned.checked.prog.looks [] ∧ ∀ (j : Nat) t, fn.params[j]? = some t → Tryd.pinned.checked.prog.wantsStandIn t = false := by
  obtain rfl : f = 4 := Option.some.inj ((show Tryd.prog.funcNamed "althing/althinglaw01.WireLists" = some 4 by kernel_rfl).symm.trans hf) |>.symm
  obtain rfl : fn = Tryd.f4 := (Option.some.inj (Tryd.func4.symm.trans hfn)).symm
  refine ⟨by kernel_rfl, fun j t ht => ?_⟩
  have h : Tryd.f4.params.toList.all (fun t => !(Tryd.prog.wantsStandIn t)) = true := by kernel_rfl
  have h1 := List.all_eq_true.1 h t (by simpa using Array.mem_of_getElem? ht)
  have h2 : Tryd.prog.wantsStandIn t = false := by simpa using h1
  exact h2

theorem proved : Rows.WireListsUptoCardSaid :=
  Claim7.holds_tied_plain_at .later [] _ _ _ _ over (fun _ h => by cases h) (by kernel_rfl) (fun _ h => by cases h) wireListsUpto_row_tie rfl ⟨rfl, rfl⟩ (by kernel_rfl) rfl bare (by kernel_rfl)
#print axioms proved
end Go.Proofs.YtimickmlmlihpaaDoor.wireLists
