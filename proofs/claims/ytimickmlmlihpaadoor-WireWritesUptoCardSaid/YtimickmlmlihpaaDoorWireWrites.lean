/-
  WireWrites: a writer writes any items one behind the other, and a reader reads any bytes as any kinds of items, as the document says. Where the arguments hold together at most 1048576 values and letters (the second form).
-/
import Derived.Test.YtimickmlmlihpaaDoorWw1
import Derived.Test.YtimickmlmlihpaaDoorWw2
import Derived.Test.YtimickmlmlihpaaDoorAwake01D
import Derived.Test.YtimickmlmlihpaaDoorDoorE
import Derived.Deep.Cut
import Derived.Deep.CutBlock
namespace Go.Proofs.YtimickmlmlihpaaDoor.wireWrites
open Go.ChangeShapes Go.WideShapes Go.ChangeAt Go.RowKit
set_option maxRecDepth 100000
set_option linter.unusedVariables false

theorem it_at {w : World} {a : Option Addr} {its : List Itm} (h : RowAt w a (its.flatMap itC)) {j : Nat} (hj : j < its.length) : ∃ b o, a = some ⟨b, o, none⟩ ∧
    w.cell? ⟨b, o + j * 3, none⟩ = some (.int .i64 its[j].k) ∧ w.cell? ⟨b, o + j * 3 + 1, none⟩ = some (.int .i64 its[j].n) ∧ w.cell? ⟨b, o + j * 3 + 2, none⟩ = some its[j].v := by
  have key : ∀ i v, (itC its[j])[i]? = some v → i < 3 → (its.flatMap itC)[j * 3 + i]? = some v := by
    intro i v hv hi
    have hl : ∀ (l : List Itm) (j : Nat) (hj : j < l.length), (l.flatMap itC)[j * 3 + i]? = (itC l[j])[i]? := by
      intro l
      induction l with
      | nil => intro j hj; simp at hj
      | cons x l ih =>
        intro j hj
        rw [List.flatMap_cons]
        cases j with
        | zero => rw [Nat.zero_mul, Nat.zero_add, List.getElem?_append_left (by show i < 3; exact hi)]; rfl
        | succ j =>
          rw [List.getElem?_append_right (by show 3 ≤ _; omega)]
          have e : (j + 1) * 3 + i - (itC x).length = j * 3 + i := by show _ - 3 = _; omega
          rw [e, ih j (by simpa using hj)]; rfl
    rw [hl its j hj]; exact hv
  obtain ⟨b, o, rfl, h0⟩ := h _ _ (key 0 _ rfl (by decide))
  refine ⟨b, o, rfl, h0, ?_⟩
  have key2 : ∀ i v, (itC its[j])[i]? = some v → i < 3 → w.cell? ⟨b, o + j * 3 + i, none⟩ = some v := fun i v hv hi => by
    obtain ⟨b', o', e, h1⟩ := h _ _ (key i v hv hi)
    simp only [Option.some.injEq, Addr.mk.injEq, and_true] at e
    obtain ⟨rfl, rfl⟩ := e
    rw [Nat.add_assoc]; exact h1
  exact ⟨key2 1 _ rfl (by decide), key2 2 _ rfl (by decide)⟩
theorem numW_bad (s : WSt) {n : Int} (h : isNum n = false) : numW s n = (s.1, true) := by unfold numW; rw [h, if_neg (by decide)]
theorem numW_ok (s : WSt) {N : Nat} (h : isNum (N : Int) = true) : numW s (N : Int) = (s.1 ++ enc N, s.2) := by unfold numW; rw [h, if_pos rfl, Int.toNat_natCast]
theorem itemW_1 (s : WSt) {i : Itm} (h : i.k = 1) : itemW s i = numW s i.n := by unfold itemW; rw [if_pos h]
theorem itemW_2 (s : WSt) {i : Itm} (h : i.k = 2 ∨ i.k = 3) : itemW s i = blobW s i.l := by
  unfold itemW; rw [if_neg (by rcases h with h | h <;> omega), if_pos h]
theorem itemW_0 (s : WSt) {i : Itm} (h1 : i.k ≠ 1) (h : ¬ (i.k = 2 ∨ i.k = 3)) : itemW s i = s := by
  unfold itemW; rw [if_neg h1, if_neg h]

theorem Lp.blob {w0 w : World} {nb cap : Nat} {g : Option Nat} {s : WSt} {l : List UInt8} {a : Option Addr} (h : Lp w0 w nb g (blobW s l) (.slice a (s.1 ++ (enc l.length ++ l)).length cap) (s.1 ++ (enc l.length ++ l))) :
    Lp w0 w nb g (blobW s l) (.slice a (s.1.length + ((enc l.length).length + l.length)) cap) (blobW s l).1 := by
  show Lp _ _ _ _ _ _ (s.1 ++ enc l.length ++ l)
  rw [List.append_assoc]
  have e : (s.1 ++ (enc l.length ++ l)).length = s.1.length + ((enc l.length).length + l.length) := by simp only [List.length_append]
  rw [e] at h; exact h

set_option maxHeartbeats 16000000 in
theorem walk (a0 : Option Addr) (c0 : Nat) (its : List Itm) (v1 : Value) (bl : List UInt8) (a2 : Option Addr) (c2 : Nat) (ks : List Int) (w : World) (h0 : RowAt w a0 (its.flatMap itC)) (hi : ∀ i ∈ its, IsBytes w i.v i.l) (h1 : IsBytes w v1 bl) (h2 : RowAt w a2 (ks.map (Value.int .i64)))
    (hm0 : itLen its ≤ 33554432) (hm1 : bl.length ≤ 1048576) (hm2 : ks.length ≤ 1048576) :
    Calls Tryd.prog 3 #[.slice a0 its.length c0, v1, .slice a2 ks.length c2] w fun e w' => e = .returned (.bool true) ∧ Below w.heap.size w w' := by
  have H0 := hid h0
  have H1 := hid h1
  obtain ⟨va1, vc1, rfl, -⟩ := id h1
  have H2 := hid h2
  have HI := hid hi
  have hlen : its.length ≤ 33554432 := by
    have : its.length ≤ itLen its := by
      unfold itLen
      clear h0 hi hm0 H0 HI
      induction its with
      | nil => simp
      | cons x l ih => simp only [List.length_cons, List.map_cons, List.sum_cons]; omega
    omega
  clear h0 h1 h2 hi
  go_enter Tryd.func3, Tryd.ntmps3
  go_wp2_with fail
  refine (new_writer w).mono ?_
  rintro e w1 ⟨rfl, hw, hb⟩
  have HW1 := hid hw
  have HB1 := hid hb
  generalize hnb : w.heap.size = nb at *
  have HNB := hid hnb
  have hs1 : nb < w1.heap.size := HW1.out.lt nb (.inl rfl)
  clear hw hb hnb
  go_wp2_with fail
  have HL0 : Hid (Lp w (w1.alloc (.cells #[] 5)) nb none ([], false) (.slice (some ⟨w1.heap.size, 0, none⟩) 0 0) []) :=
    ⟨HW1.out.below (below_new _), World.ownsRow_made w1 #[] 0 (by omega) (Nat.zero_le _) rfl, (fun k hk hw => by
      simp only [Value.ownBlock, Option.some.injEq] at hk
      rcases hw with hw | hw
      · omega
      · cases hw), (fun k e => by cases e), HB1.out.trans ((below_new _).mono (by omega)), by simp; omega⟩
  clear HW1 HB1
  generalize w1.alloc (.cells #[] 5) = w2 at HL0 ⊢
  clear hs1
  go_loopw [8, 9, 26] (fun wv bv i wr => ∃ (j : Nat) (g : Option Nat) (s : WSt), i = .int .i64 j ∧ j ≤ its.length ∧ bv = .bool s.2 ∧ Hid (s = itemsW ([], false) (its.take j)) ∧ Hid (Lp w wr nb g s wv s.1)) (fun _ _ i _ => its.length - (intOf i).toNat)
  case atStart => exact ⟨0, none, ([], false), rfl, Nat.zero_le _, rfl, rfl, HL0⟩
  case round =>
    clear HL0
    obtain ⟨j, g, s, rfl, hj, rfl, HS, HL⟩ := hrel
    by_cases hlt : j < its.length
    · have HBW : Hid (Below w.heap.size w wr) := by show Below _ _ _; rw [HNB.out]; exact HL.out.bel
      obtain ⟨x, o, rfl, r0, r1, r2⟩ := it_at (H0.out.below HBW.out) hlt
      have HI' := hid (HI.out _ (List.getElem_mem hlt))
      have HV := hid (HI'.out.below HBW.out)
      have HT := hid (itemsW_take ([], false) its j hlt)
      have hl1 := itemsW_len (its.take j) ([], false) (fun i hi => by have := itLen_mem (List.mem_of_mem_take hi); omega)
      have hl2 := itLen_take its j hlt
      rw [← HS.out] at hl1 HT
      simp only [List.length_nil] at hl1
      have hroom : s.1.length + (9 + its[j].l.length) ≤ 33554432 := by omega
      generalize its[j] = it at *
      obtain ⟨kk, n, v, l⟩ := it
      dsimp only at HV HI' r0 r1 r2 hroom
      clear hl1 hl2 HBW HS
      obtain ⟨va, vc, rfl, -⟩ := id HV.out
      generalize wr = wp at *
      go_upto_region 8 with fail
      have hbn := below_new (w := wp) (.cells #[.int .i64 kk, .int .i64 n, .slice va l.length vc] 28)
      have HO := hid (ObjAt.new wp 28 #[.int .i64 kk, .int .i64 n, .slice va l.length vc])
      have HL1 := hid (HL.out.below hbn)
      have HL1k := hid (HL.out.apart _ (Nat.le_refl _))
      have HV1 := hid (HV.out.below hbn)
      clear HL HV hbn r0 r1 r2
      generalize wp.alloc (.cells #[.int .i64 kk, .int .i64 n, .slice va l.length vc] 28) = wq at *
      generalize wp.heap.size = kb at *
      have HKB : Hid (¬ WB nb g kb) := HL1k.out
      have HVW := hid (HI'.out)
      have k0 := HO.out.cell 0 (.int .i64 kk) rfl
      by_cases h1 : kk = 1
      · subst h1
        rw [itemW_1 s rfl] at HT
        have k1 := HO.out.cell 1 (.int .i64 n) rfl
        go_wp2_with fail
        have hbn := below_new (w := wq) (.cells #[.int .i64 n] 3)
        have HL2 := hid (HL1.out.below hbn)
        have HO2 := hid (HO.out.below hbn)
        have HF : Hid (OffW (wq.alloc (.cells #[.int .i64 n] 3)) nb g (some ⟨wq.heap.size, 0, none⟩)) := fun ad e _ hw => by
          cases e
          exact HL1.out.apart _ (Nat.le_refl _) hw
        have HRN := hid (RowAt.new wq #[.int .i64 n] 3 (0, 0))
        generalize wq.alloc (.cells #[.int .i64 n] 3) = w3 at *
        generalize wq.heap.size = q3 at *
        refine (wr_nums nb g s (some ⟨q3, 0, none⟩) [n] 1 w3 HL2.out.wr HRN.out (fun _ => HF.out) (by simp only [List.length_singleton]; omega)).mono ?_
        rintro e w4 ⟨rfl, hp⟩
        have HO4 := hid (HO2.out.keptS hp.kept HKB.out)
        obtain ⟨g4, hl4⟩ := HL2.out.write hp
        have HL4 : Hid (Lp w w4 nb g4 (numW s n) u8 s.1) := hl4
        have k1 := HO4.out.cell 1 (.int .i64 n) rfl
        clear hp hl4 HL2 HO2 HF HRN hbn HL1 HO k0
        go_wp2_with fail
        refine (ref_bad n w4).mono ?_
        rintro e w5 ⟨rfl, rfl⟩
        cases hn : isNum n with
        | false =>
          rw [numW_bad s hn] at HT HL4
          clear hn
          go_wp2_with fail
          go_roundw
          case rel => exact ⟨j + 1, g4, (s.1, true), by go_num, by omega, rfl, HT.out.symm, HL4⟩
          case measure => simp [intOf]; omega
        | true =>
          have h2 := (isNum_iff n).1 hn
          obtain ⟨N, rfl⟩ : ∃ N : Nat, n = N := ⟨n.toNat, by omega⟩
          rw [numW_ok s hn] at HT HL4
          clear hn
          have h9 := enc_length9 (n := N) (by omega)
          go_wp2_with fail
          refine (ref_put N w4 (by omega)).mono ?_
          rintro e w5 ⟨v5, rfl, ho5, hb5⟩
          have HL5 := hid (HL4.out.below hb5)
          have HV5 := hid ho5
          clear ho5 hb5 HL4 HO4 k1 h2
          go_wp2_with (at_builtin; refine wpList_app_lies rfl (.tmp 42) (.tmp 45) 23 rfl nb 5 Tryd.underlying23 info5 _ _ s.1 (enc N) _ rfl HL5.out.own rfl HV5.out (enc_pos N) (by omega) HL5.out.n0 ?_; intro gg cap w6 ho6 hg6 hat6; refine Stop.mk ?_)
          have HL6 := hid (HL5.out.app ho6 hg6 hat6)
          clear ho6 hg6 hat6 HL5 HV5
          refine Stop.go ?_
          go_wp2_with fail
          go_roundw
          case rel => exact ⟨j + 1, g4, (s.1 ++ enc N, s.2), by go_num, by omega, rfl, HT.out.symm, (by have h := HL6.out; rw [List.length_append] at h; exact h)⟩
          case measure => simp [intOf]; omega
      · by_cases h2 : kk = 2
        · subst h2
          rw [itemW_2 s (.inl rfl)] at HT
          have k2 := HO.out.cell 2 (.slice va l.length vc) rfl
          go_wp2_with fail
          refine (ref_copy _ l wq HV1.out (by omega)).mono ?_
          rintro e w3 ⟨v3, rfl, ho3, hb3⟩
          have HL3 := hid (HL1.out.below hb3)
          have HO3 := hid (HO.out.below hb3)
          have HB3 := hid (owns_bytes ho3)
          have HQ3 : Hid (∀ k, v3.ownBlock = some k → ¬ WB nb g k) := fun k e => HL1.out.apart k (ho3.lt k e).1
          obtain ⟨a3, c3, rfl, -⟩ := owns_row ho3
          clear ho3 hb3 HL1 HO HV1 k0 k2
          go_wp2_with fail
          have hbn := below_new (w := w3) (.cells #[.slice a3 l.length c3] 23)
          have HL5 := hid (HL3.out.below hbn)
          have HO5 := hid (HO3.out.below hbn)
          have HB5 := hid (HB3.out.below hbn)
          have HF : Hid (OffW (w3.alloc (.cells #[.slice a3 l.length c3] 23)) nb g (some ⟨w3.heap.size, 0, none⟩)) := fun ad e _ hw => by
            cases e
            exact HL3.out.apart _ (Nat.le_refl _) hw
          have HRN := hid (RowAt.new w3 #[.slice a3 l.length c3] 23 (0, 0))
          have HKB5 := hid HKB.out
          have HOV : Hid (OffV nb g [.slice a3 l.length c3] [l]) := fun j v l' hv hl' hne k hk => by
            cases j with
            | zero =>
              simp only [List.getElem?_cons_zero, Option.some.injEq] at hv
              subst hv
              exact HQ3.out k hk
            | succ j => simp at hv
          generalize w3.alloc (.cells #[.slice a3 l.length c3] 23) = w5 at *
          generalize w3.heap.size = q3 at *
          clear hbn HL3 HO3 HB3 HQ3
          refine (wr_blobs nb g s (some ⟨q3, 0, none⟩) [.slice a3 l.length c3] [l] 1 w5 HL5.out.wr HRN.out (allBytes_one HB5.out) (fun _ => HF.out) HOV.out (by simp only [List.length_singleton, List.flatten_cons, List.flatten_nil, List.append_nil]; omega)).mono ?_
          rintro e w6 ⟨rfl, hp⟩
          have HO6 := hid (HO5.out.keptS hp.kept HKB5.out)
          obtain ⟨g6, hl6⟩ := HL5.out.write hp
          have HL6 : Hid (Lp w w6 nb g6 (blobW s l) u8 s.1) := hl6
          have k2 := HO6.out.cell 2 (.slice va l.length vc) rfl
          clear hp hl6 HL5 HO5
          go_wp2_with fail
          refine (ref_blob _ l w6 (HVW.out.below (by rw [HNB.out]; exact HL6.out.bel)) (by omega)).mono ?_
          rintro e w7 ⟨v7, rfl, ho7, hb7⟩
          have HL7 := hid (HL6.out.below hb7)
          have HV7 := hid ho7
          have h9 := enc_length9 (n := l.length) (by omega)
          clear ho7 hb7 HL6 HO6 k2
          go_wp2_with (at_builtin; refine wpList_app_lies rfl (.tmp 55) (.tmp 58) 23 rfl nb 5 Tryd.underlying23 info5 _ _ s.1 (enc l.length ++ l) _ rfl HL7.out.own rfl HV7.out (by have := enc_pos l.length; rw [List.length_append]; omega) (by rw [List.length_append]; omega) HL7.out.n0 ?_; intro gg cap w8 ho8 hg8 hat8; refine Stop.mk ?_)
          have HL8 := hid (HL7.out.app ho8 hg8 hat8)
          clear ho8 hg8 hat8 HL7 HV7
          refine Stop.go ?_
          go_wp2_with fail
          go_roundw
          case rel => exact ⟨j + 1, g6, blobW s l, by go_num, by omega, rfl, HT.out.symm, Lp.blob HL8.out⟩
          case measure => simp [intOf]; omega
        · by_cases h3 : kk = 3
          · subst h3
            rw [itemW_2 s (.inr rfl)] at HT
            have k2 := HO.out.cell 2 (.slice va l.length vc) rfl
            have hcv := run_bytes (P := Tryd.prog) Tryd.underlying23 Tryd.underlying5 Tryd.underlying9 HV1.out
            go_wp2_with fail
            have hbn := below_new (w := wq) (.cells #[.string ⟨l.toArray⟩] 9)
            have HL5 := hid (HL1.out.below hbn)
            have HO5 := hid (HO.out.below hbn)
            have HF : Hid (OffW (wq.alloc (.cells #[.string ⟨l.toArray⟩] 9)) nb g (some ⟨wq.heap.size, 0, none⟩)) := fun ad e _ hw => by
              cases e
              exact HL1.out.apart _ (Nat.le_refl _) hw
            have HRN := hid (RowAt.new wq #[.string ⟨l.toArray⟩] 9 (0, 0))
            have HKB5 := hid HKB.out
            have ht : tls [⟨l.toArray⟩] = [l] := by simp [tls]
            have HTL := hid ht
            generalize wq.alloc (.cells #[.string ⟨l.toArray⟩] 9) = w5 at *
            generalize wq.heap.size = q3 at *
            clear hbn HL1 HO HV1 hcv k0 k2 ht
            refine (wr_texts nb g s (some ⟨q3, 0, none⟩) [⟨l.toArray⟩] 1 w5 HL5.out.wr HRN.out (fun _ => HF.out) (by rw [HTL.out]; simp only [List.length_singleton, List.flatten_cons, List.flatten_nil, List.append_nil]; omega)).mono ?_
            rw [HTL.out]
            rintro e w6 ⟨rfl, hp⟩
            have HO6 := hid (HO5.out.keptS hp.kept HKB5.out)
            obtain ⟨g6, hl6⟩ := HL5.out.write hp
            have HL6 : Hid (Lp w w6 nb g6 (blobW s l) u8 s.1) := hl6
            have k2 := HO6.out.cell 2 (.slice va l.length vc) rfl
            clear hp hl6 HL5 HO5
            go_wp2_with fail
            refine (ref_blob _ l w6 (HVW.out.below (by rw [HNB.out]; exact HL6.out.bel)) (by omega)).mono ?_
            rintro e w7 ⟨v7, rfl, ho7, hb7⟩
            have HL7 := hid (HL6.out.below hb7)
            have HV7 := hid ho7
            have h9 := enc_length9 (n := l.length) (by omega)
            clear ho7 hb7 HL6 HO6 k2
            go_wp2_with (at_builtin; refine wpList_app_lies rfl (.tmp 68) (.tmp 71) 23 rfl nb 5 Tryd.underlying23 info5 _ _ s.1 (enc l.length ++ l) _ rfl HL7.out.own rfl HV7.out (by have := enc_pos l.length; rw [List.length_append]; omega) (by rw [List.length_append]; omega) HL7.out.n0 ?_; intro gg cap w8 ho8 hg8 hat8; refine Stop.mk ?_)
            have HL8 := hid (HL7.out.app ho8 hg8 hat8)
            clear ho8 hg8 hat8 HL7 HV7
            refine Stop.go ?_
            go_wp2_with fail
            go_roundw
            case rel => exact ⟨j + 1, g6, blobW s l, by go_num, by omega, rfl, HT.out.symm, Lp.blob HL8.out⟩
            case measure => simp [intOf]; omega
          · rw [itemW_0 s h1 (fun h => h.elim h2 h3)] at HT
            have HL2 := hid HL1.out
            have e1 : (kk == 1) = false := beq_eq_false_iff_ne.2 h1
            have e2 : (kk == 2) = false := beq_eq_false_iff_ne.2 h2
            have e3 : (kk == 3) = false := beq_eq_false_iff_ne.2 h3
            clear HL1 HO HV1
            go_wp2_with fail
            go_roundw
            case rel => exact ⟨j + 1, g, s, by go_num, by omega, rfl, HT.out.symm, HL2⟩
            case measure => simp [intOf]; omega
    · have hjl : j = its.length := by omega
      subst hjl
      have hl1 := itemsW_len its ([], false) (fun i hi => by have := itLen_mem hi; omega)
      simp only [List.take_length] at HS
      rw [← HS.out] at hl1
      simp only [List.length_nil] at hl1
      clear HS hlt hj HI H0 hlen
      obtain ⟨t, bad⟩ := s
      dsimp only at hl1
      go_wp2_with fail
      refine (wr_out nb g (t, bad) wr HL.out.wr (by show t.length ≤ _; omega)).mono ?_
      rintro e w3 ⟨hb3, hc3⟩
      have HL3 := hid (HL.out.below hb3)
      clear hb3 HL
      rcases hc3 with ⟨hbd, rfl⟩ | ⟨hbd, v3, rfl, ho3⟩
      · obtain rfl : bad = true := hbd
        go_wp2_with fail
        refine (wr_out nb g (t, true) w3 HL3.out.wr (by show t.length ≤ _; omega)).mono ?_
        rintro e w4 ⟨hb4, hc4⟩
        have HB4 := hid (HL3.out.bel.trans (hb4.mono HL3.out.n0))
        have hs4 : nb ≤ w4.heap.size := Nat.le_trans HL3.out.n0 hb4.size
        rcases hc4 with ⟨-, rfl⟩ | ⟨hx, -⟩
        rotate_left
        · cases hx
        clear hb4 HL3
        go_wp2_with fail
        refine (ref_same _ _ [] [] w4 (isBytes_nil _) (isBytes_nil _)).mono ?_
        rintro e w5 ⟨rfl, rfl⟩
        rw [show (([] : List UInt8) == []) = true from rfl]
        go_upto_region 25 with fail
        go_wp2_with fail
        refine (ref_copy _ bl w4 (H1.out.below (by rw [HNB.out]; exact HB4.out)) (by omega)).mono ?_
        rintro e w5 ⟨v5, rfl, ho5, hb5⟩
        have HB5 := hid (HB4.out.trans (hb5.mono hs4))
        have HV5 := hid (owns_bytes ho5)
        have hs5 : nb ≤ w5.heap.size := Nat.le_trans hs4 hb5.size
        clear ho5 hb5 HB4
        go_wp2_with fail
        refine (new_reader v5 bl w5 HV5.out (by omega)).mono ?_
        rintro e w6 ⟨r, rfl, hr, hb6, hnr⟩
        have HR6 := hid hr
        have HB6 := hid (HB5.out.trans (hb6.mono hs5))
        have hr6 : nb ≤ r := Nat.le_trans hs5 hnr
        have hs6 : nb ≤ w6.heap.size := Nat.le_trans hs5 hb6.size
        clear hr hb6 hnr HB5 HV5
        go_upto_region 27 with fail
        have hbn := below_new (w := w6) (.cells #[.slice va1 bl.length vc1, .int .i64 0, .int .i64 0] 43)
        have HBO : Hid (Both w (w6.alloc (.cells #[.slice va1 bl.length vc1, .int .i64 0, .int .i64 0] 43)) nb r w6.heap.size bl (bl, 0)) :=
          ⟨HR6.out.below hbn, ⟨_, 0, ObjAt.new w6 43 #[.slice va1 bl.length vc1, .int .i64 0, .int .i64 0], (H1.out.below (by rw [HNB.out]; exact HB6.out)).below hbn, Nat.zero_le _, rfl⟩, HB6.out.trans (hbn.mono hs6), hr6, hs6, Nat.le_trans hs6 hbn.size, Nat.le_refl _⟩
        clear hbn HR6 HB6
        generalize w6.alloc (.cells #[.slice va1 bl.length vc1, .int .i64 0, .int .i64 0] 43) = w7 at *
        generalize w6.heap.size = d at *
        go_wp2_with fail
        go_loopw [119] (fun i wr => ∃ (k : Nat) (s : RSt), i = .int .i64 k ∧ k ≤ ks.length ∧ Hid (Both w wr nb r d bl s)) (fun i _ => ks.length - (intOf i).toNat)
        case atStart => exact ⟨0, _, rfl, Nat.zero_le _, HBO⟩
        case round =>
          clear HBO
          obtain ⟨k, s, rfl, hk, HBO⟩ := hrel
          by_cases hlt : k < ks.length
          · obtain ⟨x, o, rfl, hc⟩ := int_at (H2.out.below (w' := wr) (by rw [HNB.out]; exact HBO.out.bel)) hlt
            generalize ks[k] = q at *
            by_cases h1 : q = 1
            · subst h1
              go_wp2_with fail
              refine (rd_num r s wr HBO.out.rd).mono ?_
              rintro e w8 ⟨rfl, hr8, hk8⟩
              have HRD := hid hr8
              have HK8 := hid hk8
              clear hr8 hk8 hc
              go_wp2_with fail
              refine (rf_num d bl s w8 (HBO.out.rd1 HK8.out).1).mono ?_
              rintro e w9 ⟨rfl, hf9, hk9⟩
              have HBN := hid (HBO.out.step HRD.out HK8.out hf9 hk9 (rdNum_len s))
              clear hf9 hk9 HRD HK8 HBO
              generalize (rdNum s).1 = z1
              generalize (rdNum s).2 = s2 at *
              have HE8 := hid (rd_err_q r _ w9 HBN.out.rd)
              have HL8 := hid (rd_left_q r _ w9 HBN.out.rd)
              have HF8 := hid (rf_left_q d bl _ w9 HBN.out.rf)
              have hf8 := HBN.out.rf
              obtain ⟨vd, ad, f1, -⟩ := hf8
              have cd2 := f1.cell 2 _ rfl
              clear f1
              go_wp2_with fail
              go_quiet (first | (go_at_call 21; exact Calls.quiet_of_same (HE8.out _)) | (go_at_call 22; exact Calls.quiet_of_same (HL8.out _)) | (go_at_call 23; exact Calls.quiet_of (HF8.out _)))
              have HBM := hid (HBN.out.drewN nq)
              clear HBN HE8 HL8 HF8 cd2
              go_wp2_with fail
              go_roundw
              case rel => exact ⟨k + 1, _, by go_num, by omega, HBM⟩
              case measure => simp [intOf]; omega
            · by_cases h2 : q = 2
              · subst h2
                have hsl : s.1.length ≤ 140737488355328 := by have := HBO.out.len; omega
                go_wp2_with fail
                refine (rd_blob r s wr HBO.out.rd hsl).mono ?_
                rintro e w8 ⟨v8, rfl, hb8, hr8, hk8, -⟩
                have HRD := hid hr8
                have HK8 := hid hk8
                have HV8 := hid hb8
                clear hr8 hk8 hc hb8
                go_wp2_with fail
                refine (rf_blob d bl s w8 (HBO.out.rd1 HK8.out).1 (by omega)).mono ?_
                rintro e w9 ⟨v9, rfl, hb9, hf9, hk9⟩
                have HBN := hid (HBO.out.step HRD.out HK8.out hf9 hk9 (rdBlob_len s).1)
                have HV8' := hid (bytes_rf HV8.out (HBO.out.rd1 HK8.out).1 hk9)
                have HV9 := hid hb9
                clear hf9 hk9 HRD HK8 HBO hb9 HV8
                go_wp2_with fail
                refine (ref_same _ _ _ _ w9 HV8'.out HV9.out).mono ?_
                rintro e w10 ⟨rfl, rfl⟩
                rw [beq_self_eq_true]
                clear HV8' HV9
                generalize (rdBlob s).2 = s2 at *
                have HE8 := hid (rd_err_q r _ w9 HBN.out.rd)
                have HL8 := hid (rd_left_q r _ w9 HBN.out.rd)
                have HF8 := hid (rf_left_q d bl _ w9 HBN.out.rf)
                have hf8 := HBN.out.rf
                obtain ⟨vd, ad, f1, -⟩ := hf8
                have cd2 := f1.cell 2 _ rfl
                clear f1
                go_wp2_with fail
                go_quiet (first | (go_at_call 21; exact Calls.quiet_of_same (HE8.out _)) | (go_at_call 22; exact Calls.quiet_of_same (HL8.out _)) | (go_at_call 23; exact Calls.quiet_of (HF8.out _)))
                have HBM := hid (HBN.out.drewN nq)
                clear HBN HE8 HL8 HF8 cd2
                go_wp2_with fail
                go_roundw
                case rel => exact ⟨k + 1, _, by go_num, by omega, HBM⟩
                case measure => simp [intOf]; omega
              · have hsl : s.1.length ≤ 140737488355328 := by have := HBO.out.len; omega
                have e1 : (q == 1) = false := beq_eq_false_iff_ne.2 h1
                have e2 : (q == 2) = false := beq_eq_false_iff_ne.2 h2
                go_wp2_with fail
                refine (rd_text r s wr HBO.out.rd hsl).mono ?_
                rintro e w8 ⟨rfl, hr8, hk8⟩
                have HRD := hid hr8
                have HK8 := hid hk8
                clear hr8 hk8 hc
                go_wp2_with fail
                refine (rf_blob d bl s w8 (HBO.out.rd1 HK8.out).1 (by omega)).mono ?_
                rintro e w9 ⟨v9, rfl, hb9, hf9, hk9⟩
                have HBN := hid (HBO.out.step HRD.out HK8.out hf9 hk9 (rdBlob_len s).1)
                have hcv := run_bytes (P := Tryd.prog) Tryd.underlying23 Tryd.underlying5 Tryd.underlying9 hb9
                clear hf9 hk9 HRD HK8 HBO hb9
                generalize (rdBlob s).1 = z1 at *
                generalize (rdBlob s).2 = s2 at *
                have HE8 := hid (rd_err_q r _ w9 HBN.out.rd)
                have HL8 := hid (rd_left_q r _ w9 HBN.out.rd)
                have HF8 := hid (rf_left_q d bl _ w9 HBN.out.rf)
                have hf8 := HBN.out.rf
                obtain ⟨vd, ad, f1, -⟩ := hf8
                have cd2 := f1.cell 2 _ rfl
                clear f1
                go_wp2_with fail
                go_quiet (first | (go_at_call 21; exact Calls.quiet_of_same (HE8.out _)) | (go_at_call 22; exact Calls.quiet_of_same (HL8.out _)) | (go_at_call 23; exact Calls.quiet_of (HF8.out _)))
                have HBM := hid (HBN.out.drewN nq)
                clear HBN HE8 HL8 HF8 cd2
                go_wp2_with fail
                go_roundw
                case rel => exact ⟨k + 1, _, by go_num, by omega, HBM⟩
                case measure => simp [intOf]; omega
          · have hkl : k = ks.length := by omega
            subst hkl
            clear hlt hk
            go_wp2_with fail
            refine (awake01 wr).mono ?_
            rintro e w8 ⟨rfl, hb⟩
            have HBZ := hid (HBO.out.bel.trans (hb.mono HBO.out.n0))
            clear hb HBO
            go_wp2_with fail
            go_ret
            exact ⟨rfl, by rw [HNB.out]; exact HBZ.out⟩
      · obtain rfl : bad = false := hbd
        have HO3 := hid (owns_bytes ho3)
        have HW3 := hid HL3.out.own
        obtain ⟨a3, c3, rfl, -⟩ := owns_row ho3
        clear ho3
        go_wp2_with fail
        refine (wr_out nb g (t, false) w3 HL3.out.wr (by show t.length ≤ _; omega)).mono ?_
        rintro e w4 ⟨hb4, hc4⟩
        have HL4 := hid (HL3.out.below hb4)
        have HO4 := hid (HO3.out.below hb4)
        rcases hc4 with ⟨hx, -⟩ | ⟨-, v4, rfl, ho4⟩
        · cases hx
        have HQ4 := hid (owns_bytes ho4)
        obtain ⟨a4, c4, rfl, -⟩ := owns_row ho4
        clear hb4 HL3 HO3 HW3 ho4
        go_wp2_with fail
        refine (ref_same _ _ t t w4 HO4.out (owns_bytes HL4.out.own)).mono ?_
        rintro e w5 ⟨rfl, rfl⟩
        rw [beq_self_eq_true]
        go_wp2_with fail
        refine (ref_same _ _ t t w4 HO4.out HQ4.out).mono ?_
        rintro e w5 ⟨rfl, rfl⟩
        rw [beq_self_eq_true]
        have HB4 := hid HL4.out.bel
        have hs4 : nb ≤ w4.heap.size := HL4.out.n0
        clear HO4 HQ4 HL4
        go_upto_region 25 with fail
        go_wp2_with fail
        refine (ref_copy _ bl w4 (H1.out.below (by rw [HNB.out]; exact HB4.out)) (by omega)).mono ?_
        rintro e w5 ⟨v5, rfl, ho5, hb5⟩
        have HB5 := hid (HB4.out.trans (hb5.mono hs4))
        have HV5 := hid (owns_bytes ho5)
        have hs5 : nb ≤ w5.heap.size := Nat.le_trans hs4 hb5.size
        clear ho5 hb5 HB4
        go_wp2_with fail
        refine (new_reader v5 bl w5 HV5.out (by omega)).mono ?_
        rintro e w6 ⟨r, rfl, hr, hb6, hnr⟩
        have HR6 := hid hr
        have HB6 := hid (HB5.out.trans (hb6.mono hs5))
        have hr6 : nb ≤ r := Nat.le_trans hs5 hnr
        have hs6 : nb ≤ w6.heap.size := Nat.le_trans hs5 hb6.size
        clear hr hb6 hnr HB5 HV5
        go_upto_region 27 with fail
        have hbn := below_new (w := w6) (.cells #[.slice va1 bl.length vc1, .int .i64 0, .int .i64 0] 43)
        have HBO : Hid (Both w (w6.alloc (.cells #[.slice va1 bl.length vc1, .int .i64 0, .int .i64 0] 43)) nb r w6.heap.size bl (bl, 0)) :=
          ⟨HR6.out.below hbn, ⟨_, 0, ObjAt.new w6 43 #[.slice va1 bl.length vc1, .int .i64 0, .int .i64 0], (H1.out.below (by rw [HNB.out]; exact HB6.out)).below hbn, Nat.zero_le _, rfl⟩, HB6.out.trans (hbn.mono hs6), hr6, hs6, Nat.le_trans hs6 hbn.size, Nat.le_refl _⟩
        clear hbn HR6 HB6
        generalize w6.alloc (.cells #[.slice va1 bl.length vc1, .int .i64 0, .int .i64 0] 43) = w7 at *
        generalize w6.heap.size = d at *
        go_wp2_with fail
        go_loopw [119] (fun i wr => ∃ (k : Nat) (s : RSt), i = .int .i64 k ∧ k ≤ ks.length ∧ Hid (Both w wr nb r d bl s)) (fun i _ => ks.length - (intOf i).toNat)
        case atStart => exact ⟨0, _, rfl, Nat.zero_le _, HBO⟩
        case round =>
          clear HBO
          obtain ⟨k, s, rfl, hk, HBO⟩ := hrel
          by_cases hlt : k < ks.length
          · obtain ⟨x, o, rfl, hc⟩ := int_at (H2.out.below (w' := wr) (by rw [HNB.out]; exact HBO.out.bel)) hlt
            generalize ks[k] = q at *
            by_cases h1 : q = 1
            · subst h1
              go_wp2_with fail
              refine (rd_num r s wr HBO.out.rd).mono ?_
              rintro e w8 ⟨rfl, hr8, hk8⟩
              have HRD := hid hr8
              have HK8 := hid hk8
              clear hr8 hk8 hc
              go_wp2_with fail
              refine (rf_num d bl s w8 (HBO.out.rd1 HK8.out).1).mono ?_
              rintro e w9 ⟨rfl, hf9, hk9⟩
              have HBN := hid (HBO.out.step HRD.out HK8.out hf9 hk9 (rdNum_len s))
              clear hf9 hk9 HRD HK8 HBO
              generalize (rdNum s).1 = z1
              generalize (rdNum s).2 = s2 at *
              have HE8 := hid (rd_err_q r _ w9 HBN.out.rd)
              have HL8 := hid (rd_left_q r _ w9 HBN.out.rd)
              have HF8 := hid (rf_left_q d bl _ w9 HBN.out.rf)
              have hf8 := HBN.out.rf
              obtain ⟨vd, ad, f1, -⟩ := hf8
              have cd2 := f1.cell 2 _ rfl
              clear f1
              go_wp2_with fail
              go_quiet (first | (go_at_call 21; exact Calls.quiet_of_same (HE8.out _)) | (go_at_call 22; exact Calls.quiet_of_same (HL8.out _)) | (go_at_call 23; exact Calls.quiet_of (HF8.out _)))
              have HBM := hid (HBN.out.drewN nq)
              clear HBN HE8 HL8 HF8 cd2
              go_wp2_with fail
              go_roundw
              case rel => exact ⟨k + 1, _, by go_num, by omega, HBM⟩
              case measure => simp [intOf]; omega
            · by_cases h2 : q = 2
              · subst h2
                have hsl : s.1.length ≤ 140737488355328 := by have := HBO.out.len; omega
                go_wp2_with fail
                refine (rd_blob r s wr HBO.out.rd hsl).mono ?_
                rintro e w8 ⟨v8, rfl, hb8, hr8, hk8, -⟩
                have HRD := hid hr8
                have HK8 := hid hk8
                have HV8 := hid hb8
                clear hr8 hk8 hc hb8
                go_wp2_with fail
                refine (rf_blob d bl s w8 (HBO.out.rd1 HK8.out).1 (by omega)).mono ?_
                rintro e w9 ⟨v9, rfl, hb9, hf9, hk9⟩
                have HBN := hid (HBO.out.step HRD.out HK8.out hf9 hk9 (rdBlob_len s).1)
                have HV8' := hid (bytes_rf HV8.out (HBO.out.rd1 HK8.out).1 hk9)
                have HV9 := hid hb9
                clear hf9 hk9 HRD HK8 HBO hb9 HV8
                go_wp2_with fail
                refine (ref_same _ _ _ _ w9 HV8'.out HV9.out).mono ?_
                rintro e w10 ⟨rfl, rfl⟩
                rw [beq_self_eq_true]
                clear HV8' HV9
                generalize (rdBlob s).2 = s2 at *
                have HE8 := hid (rd_err_q r _ w9 HBN.out.rd)
                have HL8 := hid (rd_left_q r _ w9 HBN.out.rd)
                have HF8 := hid (rf_left_q d bl _ w9 HBN.out.rf)
                have hf8 := HBN.out.rf
                obtain ⟨vd, ad, f1, -⟩ := hf8
                have cd2 := f1.cell 2 _ rfl
                clear f1
                go_wp2_with fail
                go_quiet (first | (go_at_call 21; exact Calls.quiet_of_same (HE8.out _)) | (go_at_call 22; exact Calls.quiet_of_same (HL8.out _)) | (go_at_call 23; exact Calls.quiet_of (HF8.out _)))
                have HBM := hid (HBN.out.drewN nq)
                clear HBN HE8 HL8 HF8 cd2
                go_wp2_with fail
                go_roundw
                case rel => exact ⟨k + 1, _, by go_num, by omega, HBM⟩
                case measure => simp [intOf]; omega
              · have hsl : s.1.length ≤ 140737488355328 := by have := HBO.out.len; omega
                have e1 : (q == 1) = false := beq_eq_false_iff_ne.2 h1
                have e2 : (q == 2) = false := beq_eq_false_iff_ne.2 h2
                go_wp2_with fail
                refine (rd_text r s wr HBO.out.rd hsl).mono ?_
                rintro e w8 ⟨rfl, hr8, hk8⟩
                have HRD := hid hr8
                have HK8 := hid hk8
                clear hr8 hk8 hc
                go_wp2_with fail
                refine (rf_blob d bl s w8 (HBO.out.rd1 HK8.out).1 (by omega)).mono ?_
                rintro e w9 ⟨v9, rfl, hb9, hf9, hk9⟩
                have HBN := hid (HBO.out.step HRD.out HK8.out hf9 hk9 (rdBlob_len s).1)
                have hcv := run_bytes (P := Tryd.prog) Tryd.underlying23 Tryd.underlying5 Tryd.underlying9 hb9
                clear hf9 hk9 HRD HK8 HBO hb9
                generalize (rdBlob s).1 = z1 at *
                generalize (rdBlob s).2 = s2 at *
                have HE8 := hid (rd_err_q r _ w9 HBN.out.rd)
                have HL8 := hid (rd_left_q r _ w9 HBN.out.rd)
                have HF8 := hid (rf_left_q d bl _ w9 HBN.out.rf)
                have hf8 := HBN.out.rf
                obtain ⟨vd, ad, f1, -⟩ := hf8
                have cd2 := f1.cell 2 _ rfl
                clear f1
                go_wp2_with fail
                go_quiet (first | (go_at_call 21; exact Calls.quiet_of_same (HE8.out _)) | (go_at_call 22; exact Calls.quiet_of_same (HL8.out _)) | (go_at_call 23; exact Calls.quiet_of (HF8.out _)))
                have HBM := hid (HBN.out.drewN nq)
                clear HBN HE8 HL8 HF8 cd2
                go_wp2_with fail
                go_roundw
                case rel => exact ⟨k + 1, _, by go_num, by omega, HBM⟩
                case measure => simp [intOf]; omega
          · have hkl : k = ks.length := by omega
            subst hkl
            clear hlt hk
            go_wp2_with fail
            refine (awake01 wr).mono ?_
            rintro e w8 ⟨rfl, hb⟩
            have HBZ := hid (HBO.out.bel.trans (hb.mono HBO.out.n0))
            clear hb HBO
            go_wp2_with fail
            go_ret
            exact ⟨rfl, by rw [HNB.out]; exact HBZ.out⟩

abbrev TItem : Ty := .pair (.int .i64) (.pair (.int .i64) (.pair (.slice (.int .u8)) .unit))
def T : Ty := .pair (.slice TItem) (.pair (.slice (.int .u8)) (.pair (.slice (.int .i64)) .unit))
theorem its_of {w : World} : ∀ (l : List (Int × Int × List Int × Unit)) (vss : List (List Value)), vss.length = l.length →
    (∀ (j : Nat) v x, vss[j]? = some v → l[j]? = some x → v.length = 3 ∧ Rd w (.pair (.int .i64) (.pair (.int .i64) (.pair (.slice (.int .u8)) .unit))) v x) →
    ∃ its : List Itm, its.length = l.length ∧ vss = its.map itC ∧ (∀ i ∈ its, IsBytes w i.v i.l) ∧ itLen its ≤ 9 * Blk (.slice TItem) l
  | [], [], _, _ => ⟨[], rfl, rfl, by simp, by simp [itLen]⟩
  | [], _ :: _, h, _ => by simp at h
  | _ :: _, [], h, _ => by simp at h
  | x :: l, v :: vss, h, hr => by
    obtain ⟨its, h1, h2, h3, h4⟩ := its_of l vss (by simpa using h) (fun j v x hv hx => hr (j + 1) v x hv hx)
    obtain ⟨-, hx⟩ := hr 0 v x rfl rfl
    obtain ⟨c1, c2, rfl, -, ⟨rfl, -⟩, c3, c4, rfl, -, ⟨rfl, -⟩, c5, c6, rfl, -, hsl, rfl⟩ := hx
    obtain ⟨a, cp, us, rfl, hq⟩ := id hsl
    obtain ⟨bs, hbl, hb, -⟩ := bytes_of_rd hsl
    refine ⟨⟨x.1, x.2.1, .slice a x.2.2.1.length cp, bs⟩ :: its, by simp [h1], ?_, ?_, ?_⟩
    · rw [List.map_cons, h2]; rfl
    · intro i hi
      rcases List.mem_cons.1 hi with rfl | hi
      · exact hb
      · exact h3 i hi
    · have e : itLen (⟨x.1, x.2.1, .slice a x.2.2.1.length cp, bs⟩ :: its) = (9 + bs.length) + itLen its := by simp [itLen]
      have e2 : Blk (.slice TItem) (x :: l) = Blk TItem x + Blk (.slice TItem) l := by simp [Blk]; omega
      have e3 : Blk TItem x = 1 + (1 + (Blk (.slice (.int .u8)) x.2.2.1 + 0)) := rfl
      have e4 := blk_slice (e := .int .u8) (fun _ => Nat.le_refl _) x.2.2.1
      rw [e, e2, e3]; omega
theorem walk' (W : World) (hL : laidMetH Tryd.prog Rows.wireWritesRow.laid W) (hsh : W.ShapedOpen Tryd.prog) (vs : List Value) (el : T.El) (hr : ArgsRd W T vs el) (hf : Blk T el ≤ 1048576) :
    Calls Tryd.prog 3 vs.toArray W fun e w' => e = .returned (.bool true) ∧ Below W.heap.size W w' := by
  obtain ⟨v1, r1, cs1, rfl, rfl, h1, v2, r2, cs2, rfl, rfl, h2, v3, r3, cs3, rfl, rfl, h3, rfl⟩ := hr
  obtain ⟨a0, c0, vss, hv1, -, -, -, hl1, hr1, hx1⟩ := h1
  simp only [List.cons.injEq, and_true] at hv1
  subst hv1
  obtain ⟨its, e1, e2, e3, e4⟩ := its_of el.1 vss hl1 hx1
  obtain ⟨bs, hbl, hb, -⟩ := bytes_of_rd h2
  obtain ⟨a2, c2, rfl, _, _, _, hrow⟩ := ints_of_rd h3
  have k2 := blk_slice (e := .int .u8) (fun _ => Nat.le_refl _) el.2.1
  have k3 := blk_slice (e := .int .i64) (fun _ => Nat.le_refl _) el.2.2.1
  have hf' : Blk (.slice TItem) el.1 + (Blk (.slice (.int .u8)) el.2.1 + (Blk (.slice (.int .i64)) el.2.2.1 + 0)) ≤ 1048576 := hf
  rw [← e1]
  exact walk a0 c0 its v2 bs a2 c2 el.2.2.1 W (by rw [e2] at hr1; exact hr1) e3 hb hrow (by omega) (by omega) (by omega)

theorem own : ownKnob Tryd.prog.godebug = none := by kernel_rfl
theorem laidOut : laidOutB Tryd.prog = true := by kernel_rfl
set_option maxRecDepth 100000 in
theorem laid_met (os : Os) : laidMet Tryd.prog Rows.wireWritesRow.laid ((laidWorldE os Rows.wireWritesRow.laid).forCall (fun _ _ => 0) ⟨#[], #[.slice none 0 0, .slice none 0 0, .slice none 0 0], []⟩).memory :=
  laidMet_of_run' 8 (by kernel_rfl) (by kernel_rfl)
set_option maxRecDepth 100000 in
theorem reads (os : Os) {H : Type} (enc : TypeId × Value → H) : ∃ places, DataW.whole enc Tryd.prog ((laidWorldE os Rows.wireWritesRow.laid).forCall (fun _ _ => 0) ⟨#[], #[.slice none 0 0, .slice none 0 0, .slice none 0 0], []⟩).memory Tryd.f3.params.toList Rows.wireWritesSpec.vars false (#[.slice none 0 0, .slice none 0 0, .slice none 0 0] : Array Value).toList 8 = some ([.nil, .nil, .nil], [], places) :=
  ⟨[], by kernel_rfl⟩

set_option maxRecDepth 100000 in
theorem lifted (os : Os) (started : os.Started) (H : Type) (enc : TypeId × Value → H) (F : Stop.Interp) :
    ReturnsInHanded {} Tryd.checked os 3 .any ((Rows.OpenSpec.upto Rows.wireWritesSpec).preRow enc Tryd.prog Tryd.f3 Rows.wireWritesUptoRow.domain false Rows.wireWritesUptoRow.laid) (((Rows.OpenSpec.upto Rows.wireWritesSpec).at F).post enc Tryd.prog Tryd.f3 false true false false) := by
  obtain ⟨places, hx⟩ := reads os enc
  refine returnsInHanded_of_row (C := Tryd.checked) (s := (Rows.OpenSpec.upto Rows.wireWritesSpec)) own started (by kernel_rfl) Tryd.func3
    (witness_row_at (enc := enc) (C := Tryd.checked) false (laidWorldE os Rows.wireWritesRow.laid) #[.slice none 0 0, .slice none 0 0, .slice none 0 0] rfl (by kernel_rfl) (by kernel_rfl) (by kernel_rfl)
      (OpenSpec.preRow_of_cond 8 hx (by kernel_rfl) (fun k hk => by cases hk; kernel_rfl) (by kernel_rfl) (laid_met os))) ?_
  intro W base args ds gs before hval hW _ hcond hsz hL hsh _
  exact law_upto_at T (by kernel_rfl) laidOut (by kernel_rfl) rfl rfl Tryd.underlying4 (fun ds h => by
    match ds, h with
    | [d0, d1, d2], _ => rfl) W (walk' W hL hsh) base args ds gs before hval hW (hcond _ rfl)

theorem over : Rows.WireWritesUptoSaid :=
  OpenClaim.holds_of_cond 3 Tryd.f3 rfl rfl rfl rfl rfl rfl rfl ⟨rfl, rfl, rfl, rfl, rfl⟩ rfl rfl rfl rfl rfl (by kernel_rfl) Tryd.func3 (by kernel_rfl)
    (of_decide_eq_true (by kernel_rfl)) (by unfold Func.isWrapper; first | (rw [if_pos (by decide +kernel)]; kernel_rfl) | (rw [if_neg (by decide +kernel)]; exact ⟨rfl, rfl⟩))
    (fun os started H enc _ F => by rw [OpenClaim.pre_eq_preRow]; exact lifted os started H enc F)

theorem bare (f : FuncId) (fn : Func) (hf : Tryd.pinned.checked.prog.funcNamed "althing/althinglaw01.WireWrites" = some f) (hfn : Tryd.pinned.checked.prog.funcs[f]? = some fn) :
    false = Tryd.pinned.checked.prog.looks [] ∧ ∀ (j : Nat) t, fn.params[j]? = some t → Tryd.pinned.checked.prog.wantsStandIn t = false := by
  obtain rfl : f = 3 := Option.some.inj ((show Tryd.prog.funcNamed "althing/althinglaw01.WireWrites" = some 3 by kernel_rfl).symm.trans hf) |>.symm
  obtain rfl : fn = Tryd.f3 := (Option.some.inj (Tryd.func3.symm.trans hfn)).symm
  refine ⟨by kernel_rfl, fun j t ht => ?_⟩
  have h : Tryd.f3.params.toList.all (fun t => !(Tryd.prog.wantsStandIn t)) = true := by kernel_rfl
  have h1 := List.all_eq_true.1 h t (by simpa using Array.mem_of_getElem? ht)
  have h2 : Tryd.prog.wantsStandIn t = false := by simpa using h1
  exact h2

theorem proved : Rows.WireWritesUptoCardSaid :=
  Claim7.holds_tied_plain_at .later [] _ _ _ _ over (fun _ h => by cases h) (by kernel_rfl) (fun _ h => by cases h) wireWritesUpto_row_tie rfl ⟨rfl, rfl⟩ (by kernel_rfl) rfl bare (by kernel_rfl)
#print axioms proved
end Go.Proofs.YtimickmlmlihpaaDoor.wireWrites
