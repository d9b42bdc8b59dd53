/-
  SessionOnce.
-/
import Derived.Test.YtdieomhddnhfoaaSessO
import Derived.Test.YtdieomhddnhfoaaArgs
import Derived.Deep.DeepCutAuto
import Derived.Deep.CutBlock
namespace Go.Proofs.Ytdieomhddnhfoaa.sessionOnce
open Go.RowKit
set_option maxRecDepth 20000
set_option linter.unusedVariables false

theorem blobs_row {w : World} : ∀ (vss : List (List Value)) (l : List (List Int)), vss.length = l.length →
    (∀ (j : Nat) v x, vss[j]? = some v → l[j]? = some x → v.length = 1 ∧ Rd w (.slice (.int .u8)) v x) →
    ∃ (vs : List Value) (ls : List (List UInt8)), vss.flatten = vs ∧ vs.length = l.length ∧ AllBytes w vs ls ∧ ∀ b ∈ ls, ∃ x ∈ l, b.length = x.length
  | [], [], _, _ => ⟨[], [], rfl, rfl, ⟨rfl, fun j v l h => by simp at h⟩, by simp⟩
  | v :: vss, x :: l, he, h => by
    obtain ⟨hlen, hrd⟩ := h 0 v x rfl rfl
    obtain ⟨u, rfl⟩ := List.length_eq_one_iff.mp hlen
    obtain ⟨bs, hb1, hb2, _⟩ := bytes_of_rd hrd
    obtain ⟨vs, ls, g1, g2, g3, g4⟩ := blobs_row vss l (by simpa using he) (fun j v y h1 h2 => h (j + 1) v y h1 h2)
    refine ⟨u :: vs, bs :: ls, by rw [List.flatten_cons, g1]; rfl, by simp [g2], ⟨by simp [g3.1], fun j v y h1 h2 => ?_⟩, fun b hb => ?_⟩
    · cases j with
      | zero => simp at h1 h2; subst h1; subst h2; exact hb2
      | succ j => exact g3.2 j v y h1 h2
    · rcases List.mem_cons.1 hb with rfl | hb
      · exact ⟨x, by simp, hb1⟩
      · obtain ⟨y, hy, e⟩ := g4 b hb
        exact ⟨y, by simp [hy], e⟩

/-- Slices of bytes among the arguments. -/
theorem blobs_of_rd {w : World} {v : Value} {l : List (List Int)} (h : Rd w (.slice (.slice (.int .u8))) [v] l) :
    ∃ a cap vs, ∃ ls : List (List UInt8), v = .slice a l.length cap ∧ RowAt w a vs ∧ vs.length = l.length ∧ AllBytes w vs ls ∧ ∀ b ∈ ls, ∃ x ∈ l, b.length = x.length := by
  obtain ⟨a, cap, vss, e, h0, h1, h2, hl, hr, hall⟩ := h
  simp only [List.cons.injEq, and_true] at e
  obtain ⟨vs, ls, g1, g2, g3, g4⟩ := blobs_row vss l hl hall
  exact ⟨a, cap, vs, ls, e, by rw [← g1]; exact hr, g2, g3, g4⟩

/-- What is done of the requests so far. -/
def Did (D : List Int) (L : Int) : Prop := (∀ d ∈ D, 1 ≤ d ∧ d ≤ L ∧ d ≤ 4611686018427387903) ∧ (0 < L → L ∈ D) ∧ 0 ≤ L

theorem mem_take_succ (D : List Int) (i : Nat) (q : Int) (h : i < D.length) : decide (q ∈ D.take (i + 1)) = (decide (q ∈ D.take i) || decide (D[i] = q)) := by
  rw [List.take_succ_eq_append_getElem h, Bool.eq_iff_iff]
  simp only [List.mem_append, List.mem_singleton, decide_eq_true_eq, Bool.or_eq_true]
  constructor
  · rintro (h | h)
    · exact .inl h
    · exact .inr h.symm
  · rintro (h | h)
    · exact .inl h
    · exact .inr h.symm
/-- How a number stands to what is done. -/
theorem once_facts {D : List Int} {L : Int} (h : Did D L) (q : Int) :
    (beginS L q = false ∧ beginE L q = 10 ∧ q ∉ D) ∨ (beginS L q = true ∧ beginE L q = 0 ∧ q ∈ D ∧ (q = L ∧ 0 < L)) ∨ (beginS L q = false ∧ beginE L q = 152 ∧ q < L) ∨ (beginS L q = false ∧ beginE L q = 0 ∧ q ∉ D ∧ (L < q ∧ numOk q = true)) := by
  obtain ⟨h1, h2, h3⟩ := h
  unfold beginS beginE
  cases hn : numOk q with
  | false =>
    left
    refine ⟨rfl, rfl, fun hm => ?_⟩
    have := h1 q hm
    unfold numOk at hn
    simp at hn; omega
  | true =>
    right
    unfold numOk at hn
    simp at hn
    rcases Int.lt_trichotomy q L with h | h | h
    · right; left
      rw [if_pos rfl, if_neg (by omega), if_pos h, decide_eq_false (by omega)]
      exact ⟨rfl, rfl, h⟩
    · left
      rw [if_pos rfl, if_pos h, decide_eq_true h]
      exact ⟨rfl, rfl, by rw [h]; exact h2 (by omega), h, by omega⟩
    · right; right
      rw [if_pos rfl, if_neg (by omega), if_neg (by omega), decide_eq_false (by omega)]
      exact ⟨rfl, rfl, fun hm => by have := h1 q hm; omega, h, rfl⟩

theorem end_fresh {L q : Int} (h : L < q ∧ numOk q = true) : endE L q = 0 := by
  unfold endE; rw [h.2, if_pos rfl, if_neg (by omega)]

theorem infoI : (Try.prog.info? 3).map (fun i => (i.zero, i.size, i.bytes)) = some (some (.int .i64 0), 1, 8) := by kernel_rfl
theorem own_snoc {w : World} {base : Nat} {e : TypeId} {v : Value} {D : List Int} {q : Int} (h : w.ownsRow base e 1 v (D.length + 1) (D.map (Value.int .i64) ++ [Value.int .i64 q])) : w.ownsRow base e 1 v (D ++ [q]).length ((D ++ [q]).map (Value.int .i64)) := by
  rw [List.length_append, List.map_append]; exact h
theorem begin_again {L q : Int} (h : L < q ∧ numOk q = true) : beginS q q = true ∧ beginE q q = 0 := by
  unfold beginS beginE; rw [h.2, if_pos rfl, if_pos rfl]; simp
theorem end_again {L q : Int} (h : L < q ∧ numOk q = true) : endE q q = 152 := by
  unfold endE; rw [h.2, if_pos rfl, if_pos (Int.le_refl _)]
theorem isBytes_nil {w : World} : IsBytes w (.slice none 0 0) [] := ⟨none, 0, rfl, RowAt.nil _ _, fun _ => rfl, Nat.le_refl _, Nat.zero_le _⟩
theorem did_snoc {D : List Int} {L q : Int} (h : Did D L) (hq : L < q ∧ numOk q = true) : Did (D ++ [q]) q := by
  obtain ⟨h1, h2, h3⟩ := h
  have hn := hq.2
  unfold numOk at hn
  simp at hn
  refine ⟨fun d hd => ?_, fun _ => by simp, by omega⟩
  rcases List.mem_append.1 hd with g | g
  · have := h1 d g; omega
  · simp at g; subst g; omega

set_option maxHeartbeats 4000000 in
theorem walk (a1 a2 : Option Addr) (c1 c2 : Nat) (rs : List Int) (vs : List Value) (ls : List (List UInt8)) (w : World) (hr : RowAt w a1 (rs.map (Value.int .i64))) (hv : RowAt w a2 vs) (hall : AllBytes w vs ls)
    (hrs : rs.length ≤ 4611686018427387904) (hvs : vs.length ≤ 4611686018427387904) (hls : ∀ b ∈ ls, b.length ≤ 140737488355328) :
    Calls Try.prog 3 #[.slice a1 rs.length c1, .slice a2 vs.length c2] w fun e w' => e = .returned (.bool true) ∧ Below w.heap.size w w' := by
  have HRS := hid hr
  have HVS := hid hv
  have HALL := hid hall
  have HLS := hid hls
  clear hr hv hall hls
  go_enter Try.func3, Try.ntmps3
  go_wp2_with fail
  refine (sess_new _).mono ?_
  rintro e w1 ⟨bt, mh, rfl, hT, hbt, hmh, hb⟩
  have HB := hid hb
  have HT := hid hT
  clear hb hT
  go_wp2_with fail
  refine (sess_open1 bt mh 1 1 _ HT.out (by decide) (by decide)).mono ?_
  rintro e w2 ⟨rfl, hk, x, rfl, -, hx, hlt, hge⟩
  have HB2 := hid (below_kept HB.out hk hmh HB.out.size)
  have HX := hid hx
  have hxs : w.heap.size ≤ x.bs := Nat.le_trans HB.out.size hge
  clear hk HB hx HT hge
  go_wp2_with fail
  have HKY : Hid (ObjAt (w2.alloc (.cells #[.string ⟨#[97]⟩, .int .i64 1] 30)) w2.heap.size 30 #[.string ⟨#[97]⟩, .int .i64 1]) := ObjAt.new _ _ _
  have HB3 := hid (HB2.out.alloc HB2.out.size (.cells #[.string ⟨#[97]⟩, .int .i64 1] 30))
  have HX3 := hid (HX.out.below (below_new (.cells #[.string ⟨#[97]⟩, .int .i64 1] 30)))
  have hz3 : (w2.alloc (.cells #[.string ⟨#[97]⟩, .int .i64 1] 30)).heap.size = w2.heap.size + 1 := by simp
  have HZ3 := hid hz3
  have hws := HB2.out.size
  clear hz3 HX HB2
  generalize w2.alloc (.cells #[.string ⟨#[97]⟩, .int .i64 1] 30) = W3 at HKY HB3 HX3 HZ3 ⊢
  generalize w2.heap.size = kb at *
  have hxb : x.bt < kb + 1 ∧ x.mh < kb + 1 ∧ x.bh < kb + 1 ∧ x.ml < kb + 1 ∧ x.bs < kb + 1 := by omega
  go_loopw [10, 11, 41] (fun la dv i wr => ∃ (k : Nat) (L : Int) (D : List Int) (rv : Value) (R : List UInt8), i = .int .i64 k ∧ k ≤ rs.length ∧ k ≤ 501 ∧ la = .int .i64 L ∧ Did D L ∧ D.length ≤ k ∧ Hid (TAt wr x 1 1 0 L rv R) ∧ R.length ≤ 140737488355328 ∧
      Hid (wr.ownsRow (kb + 1) 3 1 dv D.length (D.map (Value.int .i64))) ∧ Hid (ObjAt wr kb 30 #[.string ⟨#[97]⟩, .int .i64 1]) ∧ Hid (Below w.heap.size w wr) ∧ kb + 1 ≤ wr.heap.size) (fun _ _ i _ => rs.length - (intOf i).toNat)
  case atStart => exact ⟨0, 0, [], _, [], rfl, Nat.zero_le _, by omega, rfl, ⟨by simp, by omega, by omega⟩, Nat.le_refl _, HX3, by simp, World.ownsRow_nil _ _ _ _, HKY, HB3, by rw [HZ3.out]; omega⟩
  case round =>
    clear HX3 HKY HB3 HZ3
    obtain ⟨k, L, D, rv, R, rfl, hk, hk5, rfl, hD, hDl, HX, hR, HO, HK, HB, hsz⟩ := hrel
    by_cases hlt : k < rs.length
    · obtain ⟨b, o, rfl, hcell⟩ := HRS.out.at k (by simpa using hlt)
      simp only [List.getElem_map] at hcell
      have hcw := (HB.out.cell (p := ⟨b, o + k, none⟩) (lt_of_cell hcell)).trans hcell
      clear hcell HRS
      generalize rs[k] = q at hcw
      by_cases hbr : k < vs.length
      rotate_left
      · clear HVS HALL
        go_wp2_with fail
        refine (awake15 _).mono ?_
        rintro e w5 ⟨rfl, hb⟩
        have HB5 := hid (below_step HB.out HB.out.size hb)
        clear hb HB
        go_wp2_with fail
        go_ret
        exact ⟨rfl, HB5.out⟩
      by_cases h500 : 500 < k
      · clear HVS HALL
        go_wp2_with fail
        refine (awake15 _).mono ?_
        rintro e w5 ⟨rfl, hb⟩
        have HB5 := hid (below_step HB.out HB.out.size hb)
        clear hb HB
        go_wp2_with fail
        go_ret
        exact ⟨rfl, HB5.out⟩
      have k0 := ObjAt.cell HK.out 0 (.string ⟨#[97]⟩) rfl
      have k1 := ObjAt.cell HK.out 1 (.int .i64 1) rfl
      go_wp2_with fail
      refine (sess_begin x 1 1 0 L rv R q _ HX.out hR).mono ?_
      rintro e w5 ⟨v, rfl, hb, -⟩
      have HB5 := hid (below_step HB.out HB.out.size hb)
      have HX5 := hid (HX.out.below hb)
      have HK5 := hid (HK.out.below hb)
      have HO5 := hid (owns_below HO.out hb)
      have hsz5 := Nat.le_trans hsz hb.size
      have hfacts := hid (once_facts hD q)
      generalize hS : beginS L q = S at *
      generalize hE : beginE L q = E at *
      have HSS := hid hS
      have HEE := hid hE
      obtain ⟨ad, cap, rfl, hrd, hcl, hcm⟩ := owns_row HO5.out
      have HRD := hid hrd
      clear hb HB HX HK HO hsz hS hE k0 k1 hcw hrd
      go_wp2_with fail
      go_loop [17, 64] (fun ag j => ∃ (i : Nat), j = .int .i64 i ∧ i ≤ D.length ∧ ag = .bool (decide (q ∈ D.take i))) (fun _ j => D.length - (intOf j).toNat)
      case atStart => exact ⟨0, rfl, Nat.zero_le _, by simp⟩
      case round =>
        obtain ⟨i, rfl, hi, rfl⟩ := hrel
        by_cases hil : i < D.length
        · obtain ⟨b2, o2, rfl, hc2⟩ := HRD.out.at i (by simpa using hil)
          simp only [List.getElem_map] at hc2
          have hts := hid (mem_take_succ D i q hil)
          clear HRD
          generalize D[i] = d at hc2 hts
          cases hm : decide (q ∈ D.take i) with
          | true =>
            have HM := hid (show decide (q ∈ D.take (i + 1)) = true from by rw [hts.out, hm]; rfl)
            clear hm hts
            go_wp2_with fail
            go_round
            case rel => exact ⟨i + 1, by go_num, by omega, by rw [HM.out]⟩
            case measure => simp [intOf]; omega
          | false =>
            by_cases hdq : d = q
            · have HM := hid (show decide (q ∈ D.take (i + 1)) = true from by rw [hts.out, decide_eq_true hdq]; simp)
              have e1 : (d == q) = true := beq_iff_eq.2 hdq
              clear hm hts hdq
              go_wp2_with fail
              go_round
              case rel => exact ⟨i + 1, by go_num, by omega, by rw [HM.out]⟩
              case measure => simp [intOf]; omega
            · have HM := hid (show decide (q ∈ D.take (i + 1)) = false from by rw [hts.out, hm, decide_eq_false hdq]; rfl)
              have e1 : (d == q) = false := beq_eq_false_iff_ne.2 hdq
              clear hm hts hdq
              go_wp2_with fail
              go_round
              case rel => exact ⟨i + 1, by go_num, by omega, by rw [HM.out]⟩
              case measure => simp [intOf]; omega
        · obtain rfl : i = D.length := by omega
          rw [List.take_length]
          rcases hfacts.out with ⟨f1, f2, f3⟩ | ⟨f1, f2, f3, f4⟩ | ⟨f1, f2, f3⟩ | ⟨f1, f2, f3, f4⟩
          · rw [decide_eq_false f3]
            subst f1
            subst f2
            have hLq : q = L → ¬ 0 < L := fun e h => f3 (by rw [e]; exact hD.2.1 h)
            have HDD := hid hD
            by_cases hqe : q = L
            · have hL := hLq hqe
              have e1 : (q == L) = true := beq_iff_eq.2 hqe
              clear hLq hqe f3
              go_wp2_with fail
              go_roundw
              case rel => exact ⟨k + 1, L, D, rv, R, by go_num, by omega, by omega, rfl, HDD.out, by omega, HX5, hR, HO5, HK5, HB5, hsz5⟩
              case measure => simp [intOf]; omega
            · have e1 : (q == L) = false := beq_eq_false_iff_ne.2 hqe
              clear hLq hqe f3
              go_wp2_with fail
              go_roundw
              case rel => exact ⟨k + 1, L, D, rv, R, by go_num, by omega, by omega, rfl, HDD.out, by omega, HX5, hR, HO5, HK5, HB5, hsz5⟩
              case measure => simp [intOf]; omega
          · rw [decide_eq_true f3]
            subst f1
            subst f2
            have e1 : (q == L) = true := beq_iff_eq.2 f4.1
            have hL := f4.2
            have FF := hid f3
            have FG := hid f4
            clear f3 f4
            go_wp2_with fail
            go_roundw
            case rel => exact ⟨k + 1, L, D, rv, R, by go_num, by omega, by omega, rfl, hD, by omega, HX5, hR, HO5, HK5, HB5, hsz5⟩
            case measure => simp [intOf]; omega
          · subst f1
            subst f2
            have e1 : (q == L) = false := beq_eq_false_iff_ne.2 (by omega)
            cases hA : decide (q ∈ D)
            all_goals
              clear hA
              go_wp2_with fail
              go_roundw
              case rel => exact ⟨k + 1, L, D, rv, R, by go_num, by omega, by omega, rfl, hD, by omega, HX5, hR, HO5, HK5, HB5, hsz5⟩
              case measure => simp [intOf]; omega
          · rw [decide_eq_false f3]
            subst f1
            subst f2
            have e1 : (q == L) = false := beq_eq_false_iff_ne.2 (by omega)
            have hqL := f4.1
            have FG := hid f4
            clear f3 f4
            go_upto_region 26 with fail
            obtain ⟨bv, ov, rfl, hcv⟩ := HVS.out.at k hbr
            have hkl : k < ls.length := by rw [← HALL.out.1]; exact hbr
            have hblob := HALL.out.2 k vs[k] ls[k] (by simp [hbr]) (by simp [hkl])
            have hbl := HLS.out ls[k] (List.getElem_mem hkl)
            have HBLW := hid hblob
            have HBL5 := hid (hblob.below (HB5.out))
            obtain ⟨sa, sc, hvk, -⟩ := hblob
            rw [hvk] at hcv HBL5 HBLW
            have hcv5 := (HB5.out.cell (p := ⟨bv, ov + k, none⟩) (lt_of_cell hcv)).trans hcv
            have k0 := ObjAt.cell HK5.out 0 (.string ⟨#[97]⟩) rfl
            have k1 := ObjAt.cell HK5.out 1 (.int .i64 1) rfl
            have hlk := HK5.out.lt
            have hlv := lt_of_cell hcv5
            have hi1 : (0 : Int) ≤ (k : Int) := by omega
            have hi2 : (k : Int) < (vs.length : Int) := by omega
            have HXd := hid HX5.out.drew1
            have HBLd : Hid (IsBytes w5.drew (.slice sa ls[k].length sc) ls[k]) := HBL5.out
            have HCV := hid hcv
            clear hcv hvk HVS HALL HLS
            generalize ls[k] = Bk at *
            clear hkl
            have HEND := hid (show endE L q = 0 from end_fresh FG.out)
            have HDD := hid hD
            have HBS : Hid (Below w5.heap.size w5 w5.drew) := (Below.refl _ _).drew
            clear hD hfacts HSS HEE
            go_cut [127] from 118 to 127 (fun s wx => s = .bool false ∧ Hid (Kept w5.heap.size x.bs w5 wx) ∧ Hid (∃ v, TAt wx x 1 1 0 q v Bk ∧ ∀ ad n k, v = .slice (some ad) n k → w5.heap.size ≤ ad.block))
            case first =>
              go_region_law (first
                | (go_simp; go_at_call 10; refine (ref_copy _ Bk _ (Hid.out (by assumption)) hbl).mono ?_; rintro e wa ⟨va, rfl, hoa, hba⟩; have HBa := hid (below_step HBS.out (Nat.le_refl _) hba); have HCa := hid (owns_bytes hoa); have HXa := hid (HXd.out.below hba); have ka0 := (HBa.out.cell (p := ⟨kb, 0, none⟩) hlk).trans k0; have ka1 := (HBa.out.cell (p := ⟨kb, 1, none⟩) hlk).trans k1; have kav := (HBa.out.cell (p := ⟨bv, ov + k, none⟩) hlv).trans hcv5; clear hoa hba)
                | (go_simp; go_at_call 9; refine (sess_end x 1 1 0 L rv R q _ Bk _ (Hid.out (by assumption)) (Hid.out (by assumption)) hbl).mono ?_; rintro e wb ⟨rfl, hkb, h1, -⟩; have HKB := hid hkb; have HTB := hid (h1 HEND.out); clear hkb h1))
              all_goals
                have HKF := hid ((Kept.of_below HBa.out).trans (HKB.out.mono HBa.out.size))
                obtain ⟨nv, hnv, hfr⟩ := HTB.out
                have HRF : Hid (∃ v, TAt wb x 1 1 0 q v Bk ∧ ∀ ad n k, v = .slice (some ad) n k → w5.heap.size ≤ ad.block) := ⟨nv, hnv, fun ad n k e => Nat.le_trans HBa.out.size (hfr ad n k e)⟩
                rw [HEND.out]
                clear HKB HTB hnv hfr
                go_wp2_with fail
                go_meet
                case rel => exact ⟨rfl, HKF, HRF⟩
            case rest =>
              obtain ⟨rfl, HKF, HRF⟩ := hcut
              have HBc := hid (below_kept HB5.out HKF.out hxs HB5.out.size)
              have HKc := hid (HK5.out.kept HKF.out (by omega))
              have HOc := hid (owns_kept HO5.out HKF.out (by omega))
              have hszc : kb + 1 ≤ wc.heap.size := Nat.le_trans hsz5 HKF.out.size
              obtain ⟨nv, hnv, hfr⟩ := HRF.out
              have HXc := hid hnv
              have hDm : (D.map (Value.int .i64)).length = D.length := List.length_map _
              have HROW : Hid (∀ g, (Value.slice ad D.length cap).ownBlock = some g → kb + 1 ≤ g ∧ g < w5.heap.size) := fun g hg => HO5.out.lt g hg
              have HFR := hid hfr
              clear hnv hfr HKF HRF k0 k1 HK5 HO5 HB5 HXd HBLd HBL5 HX5 HBS hcv5 HRD
              go_wp2_with (at_builtin; refine wpList_app rfl (.tmp 129) (.tmp 131) 22 rfl (kb + 1) 3 Try.underlying22 infoI rfl (by omega) _ _ _ rfl (HOc.out.alloc _) _ 1 1 [.int .i64 q] rfl rfl (RowAt.new _ _ _ _) (by simp [Value.oneCell']) (by unfold maxLen; omega) (by omega) (by simp; omega) (by simp) ?_; intro v1 w1 ho1 hg1 _; refine Stop.mk ?_)
              have HO1 := hid (own_snoc ho1)
              have HX1 := hid ((HXc.out.below (below_new (.cells #[.int .i64 q] 3))).grown hg1 (fun g hg => (HROW.out g hg).1) hxb (fun ad n k e h => by have h1 := (HROW.out _ h.symm).2; have h2 := HFR.out ad n k e; omega))
              have HK1 := hid ((HKc.out.below (below_new (.cells #[.int .i64 q] 3))).grown hg1 (fun h => by have := (HROW.out _ h.symm).1; omega))
              have HB1 := hid ((HBc.out.alloc HBc.out.size (.cells #[.int .i64 q] 3)).grown hg1 (by have := HBc.out.size; simp; omega) (fun g hg => by have := (HROW.out g hg).1; omega))
              have hsz1 : kb + 1 ≤ w1.heap.size := by have h := hg1.size; simp at h; omega
              clear ho1 hg1 HOc HXc HKc HBc HROW HFR
              refine Stop.go ?_
              have k0 := ObjAt.cell HK1.out 0 (.string ⟨#[97]⟩) rfl
              have k1 := ObjAt.cell HK1.out 1 (.int .i64 1) rfl
              go_wp2_with fail
              refine (sess_begin x 1 1 0 q nv Bk q _ HX1.out hbl).mono ?_
              rintro e w6 ⟨v6, rfl, hb, hrep⟩
              have HS6 := hid (begin_again FG.out)
              have HR6 := hid (hrep HS6.out.1)
              have HB6 := hid (below_step HB1.out HB1.out.size hb)
              have HX6 := hid (HX1.out.below hb)
              have HK6 := hid (HK1.out.below hb)
              have HO6 := hid (owns_below HO1.out hb)
              have hsz6 := Nat.le_trans hsz1 hb.size
              have HBL6 := hid (HBLW.out.below HB6.out)
              rw [HS6.out.1, HS6.out.2]
              have hcv6 := (HB6.out.cell (p := ⟨bv, ov + k, none⟩) (lt_of_cell HCV.out)).trans HCV.out
              clear hb hrep HB1 HX1 HK1 HO1 k0 k1
              have k0 := ObjAt.cell HK6.out 0 (.string ⟨#[97]⟩) rfl
              have k1 := ObjAt.cell HK6.out 1 (.int .i64 1) rfl
              have hsame : (Bk == Bk) = true := beq_self_eq_true _
              have HSM := hid (ref_same v6 _ Bk Bk w6 HR6.out HBL6.out)
              rw [hsame] at HSM
              go_wp2_with fail
              refine HSM.out.mono ?_
              rintro e w7 ⟨rfl, rfl⟩
              clear HSM hcv6
              go_wp2_with fail
              refine (sess_end x 1 1 0 q nv Bk q _ [] _ HX6.out isBytes_nil (by simp)).mono ?_
              rintro e w8 ⟨rfl, hk8, -, h8⟩
              have HE8 := hid (end_again FG.out)
              have hb := h8 (by rw [HE8.out]; decide)
              have HB8 := hid (below_step HB6.out HB6.out.size hb)
              have HX8 := hid (HX6.out.below hb)
              have HK8 := hid (HK6.out.below hb)
              have HO8 := hid (owns_below HO6.out hb)
              have hsz8 := Nat.le_trans hsz6 hb.size
              rw [HE8.out]
              clear hb hk8 h8 HB6 HX6 HK6 HO6 k0 k1
              go_wp2_with fail
              go_roundw
              case rel => exact ⟨k + 1, q, D ++ [q], nv, Bk, by go_num, by omega, by omega, rfl, did_snoc HDD.out FG.out, by simp; omega, HX8, hbl, HO8, HK8, HB8, hsz8⟩
              case measure => simp [intOf]; omega
    · go_wp2_with fail
      refine (awake15 _).mono ?_
      rintro e w5 ⟨rfl, hb⟩
      have HB5 := hid (below_step HB.out HB.out.size hb)
      clear hb HB
      go_wp2_with fail
      go_ret
      exact ⟨rfl, HB5.out⟩

def T : Ty := .pair (.slice (.int .i64)) (.pair (.slice (.slice (.int .u8))) .unit)
theorem walk' (W : World) (vs : List Value) (el : T.El) (hr : ArgsRd W T vs el) (hf : Fit T el) : Calls Try.prog 3 vs.toArray W fun e w' => e = .returned (.bool true) ∧ Below W.heap.size W w' := by
  obtain ⟨v, r, cs, rfl, rfl, h1, v2, r2, cs2, rfl, rfl, h2, rfl⟩ := hr
  obtain ⟨a1, c1, rfl, -, -, -, r1⟩ := ints_of_rd h1
  obtain ⟨a2, c2, us, ls, rfl, g1, g2, g3, g4⟩ := blobs_of_rd h2
  have b1 : el.1.length * 8 ≤ reachBytes := hf.1.1
  have b2 : el.2.1.length * 24 ≤ reachBytes := hf.2.1.1
  have b3 : ∀ x ∈ el.2.1, x.length * 1 ≤ reachBytes := fun x hx => (hf.2.1.2 x hx).1
  unfold reachBytes at b1 b2 b3
  rw [← g2]
  exact walk a1 a2 c1 c2 el.1 us ls W r1 g1 g3 (by omega) (by omega) (fun b hb => by obtain ⟨x, hx, e⟩ := g4 b hb; have := b3 x hx; omega)

theorem own : ownKnob Try.prog.godebug = none := by kernel_rfl
theorem laidOut : laidOutB Try.prog = true := by kernel_rfl

set_option maxRecDepth 100000 in
theorem lifted (os : Os) (started : os.Started) (H : Type) (enc : TypeId × Value → H) :
    ReturnsInHanded {} Try.checked os 3 .any (Rows.sessionOnceSpec.pre6 enc Try.prog Try.f3 Rows.sessionOnceRow.domain false) (Rows.sessionOnceSpec.post enc Try.prog Try.f3 false true false false) := by
  refine returnsInHanded_of_change_sized (C := Try.checked) own started (by kernel_rfl) Try.func3
    (ChangeSpec.witness6 (enc := enc) (C := Try.checked) false ⟨#[], #[.slice none 0 0, .slice none 0 0], []⟩ 16 (by kernel_rfl) (by kernel_rfl) (by kernel_rfl) (by kernel_rfl)) ?_
  intro W base args ds gs before hval hW _ hsz _
  exact law_said T (by kernel_rfl) laidOut (by kernel_rfl) rfl rfl Try.underlying4 (fun ds h => by
    match ds, h with
    | [d0, d1], _ => rfl) walk' W base args ds gs before hval hW hsz

theorem over : Rows.sessionOnceRow.holds Try.pinned (OpenSpec.ofChange Rows.sessionOnceSpec) :=
  OpenClaim.holds_of_wide 3 Try.f3 rfl rfl rfl rfl rfl rfl rfl ⟨rfl, rfl, rfl, rfl, rfl⟩ rfl rfl rfl rfl rfl (by kernel_rfl) Try.func3 (by kernel_rfl)
    (of_decide_eq_true (by kernel_rfl)) (by unfold Func.isWrapper; first | (rw [if_pos (by decide +kernel)]; kernel_rfl) | (rw [if_neg (by decide +kernel)]; exact ⟨rfl, rfl⟩))
    (fun os started H enc _ => lifted os started H enc)

theorem proved : Rows.SessionOnceSaid := over
#print axioms proved
end Go.Proofs.Ytdieomhddnhfoaa.sessionOnce
