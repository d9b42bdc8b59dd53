/-
  DiskBound: the walk.
-/
import Derived.Test.YtibhkkfbhbnmeaaDskO
import Derived.Test.YtibhkkfbhbnmeaaDskX
namespace Go.Proofs.Ytibhkkfbhbnmeaa
open Go.RowKit
set_option maxRecDepth 20000
set_option linter.unusedVariables false

theorem row_oq {w : World} {a : Option Addr} {os : List Oq} (h : RowAt w a (os.flatMap oqCells)) {j : Nat} (hj : j < os.length) : ∃ b o, a = some ⟨b, o, none⟩ ∧ ∀ i v, i < 6 → (oqCells os[j])[i]? = some v → w.cell? ⟨b, o + j * 6 + i, none⟩ = some v := by
  have key : ∀ i v, (oqCells os[j])[i]? = some v → i < 6 → ∃ b o, a = some ⟨b, o, none⟩ ∧ w.cell? ⟨b, o + (j * 6 + i), none⟩ = some v := fun i v hv hi =>
    h (j * 6 + i) v (by
      have : ∀ (os : List Oq) (j i : Nat) (hj : j < os.length), i < 6 → (os.flatMap oqCells)[j * 6 + i]? = (oqCells os[j])[i]? := by
        intro os
        induction os with
        | nil => intro j i hj; simp at hj
        | cons x os ih =>
          intro j i hj hi
          have hl : (oqCells x).length = 6 := rfl
          rw [List.flatMap_cons]
          cases j with
          | zero => rw [List.getElem?_append_left (by rw [hl]; omega)]; simp
          | succ j =>
            rw [List.getElem?_append_right (by rw [hl]; omega), hl, show (j + 1) * 6 + i - 6 = j * 6 + i by omega, ih j i (by simpa using hj) hi]
            rfl
      rw [this os j i hj hi]; exact hv)
  obtain ⟨b, o, rfl, h0⟩ := key 0 _ rfl (by decide)
  refine ⟨b, o, rfl, fun i v hi hv => ?_⟩
  obtain ⟨b', o', e, h1⟩ := key i v hv hi
  simp only [Option.some.injEq, Addr.mk.injEq, and_true] at e
  obtain ⟨rfl, rfl⟩ := e
  rw [Nat.add_assoc]; exact h1
theorem Good.nil {cap : Int} (h : 0 ≤ cap) : Good cap [] := ⟨List.nodup_nil, by simpa [sumA] using h, by simp, by simp⟩

theorem appA_len (A : List Ab) (nm l : List UInt8) : (appA A nm l).length ≤ A.length + 1 := by
  unfold appA; split <;> simp
theorem delA_len (A : List Ab) (nm : List UInt8) : (delA A nm).length ≤ A.length := List.length_filter_le _ _
theorem putA_len (A : List Ab) (a : Ab) : (putA A a).length ≤ A.length + 1 := by
  unfold putA; split <;> simp
theorem synA_len : ∀ (ns : List (List UInt8)) (A : List Ab), (synA A ns).length = A.length
  | [], A => rfl
  | n :: ns, A => by
    show (synA (synA1 A n) ns).length = _
    rw [synA_len ns]; unfold synA1; simp
theorem remA_len : ∀ (ns : List (List UInt8)) (A : List Ab), (remA A ns).length ≤ A.length
  | [], A => Nat.le_refl _
  | n :: ns, A => by
    show (remA (delA A n) ns).length ≤ _
    exact Nat.le_trans (remA_len ns _) (delA_len A n)
theorem crash1_len (p : List Ab × List Int) (n : List UInt8) : (crash1 p n).1.length = p.1.length := by
  unfold crash1
  split
  · rfl
  · split
    · rfl
    · simp [setA]
theorem crashN_len : ∀ (ns : List (List UInt8)) (p : List Ab × List Int), (crashN p ns).1.length = p.1.length
  | [], p => rfl
  | n :: ns, p => by
    show (crashN (crash1 p n) ns).1.length = _
    rw [crashN_len ns, crash1_len]
theorem crashA_len (A : List Ab) (cs : List Int) : (crashA A cs).length = A.length := crashN_len _ _
theorem ren_len {F : List Fl} {A' : List Ab} {s t : List UInt8} (h1 : renE F s t ≠ 0 → A' = abs F) (h2 : ∀ x, renE F s t = 0 → fileOf F s = some x → A' = putA (delA (abs F) s) (t, x.b, x.safe)) : A'.length ≤ (abs F).length + 1 := by
  by_cases e : renE F s t = 0
  · have e0 := e
    unfold renE at e
    split at e
    · split at e
      · rename_i hs
        obtain ⟨x, hx⟩ := Option.isSome_iff_exists.1 hs
        rw [h2 x e0 hx]
        have := putA_len (delA (abs F) s) (t, x.b, x.safe)
        have := delA_len (abs F) s
        omega
      · cases e
    · cases e
  · rw [h1 e]; omega
theorem bound_next {w W2 w' : World} {d m : Nat} {cap : Int} {F : List Fl} {A : List Ab} (hp : ∃ F', DkAt w' d m cap F' ∧ abs F' = A ∧ Moved W2 w' m F F') (hg : Good cap A) (hb : Below w.heap.size w W2) (ht : ∀ k, TabHas m F k → w.heap.size ≤ k) (hn : A.length ≤ (abs F).length + 1) {j : Nat} (hj : F.length ≤ j) :
    ∃ F' : List Fl, Hid (DkAt w' d m cap F') ∧ Hid (Good cap (abs F')) ∧ Hid (Below w.heap.size w w') ∧ Hid (∀ k, TabHas m F' k → w.heap.size ≤ k) ∧ w.heap.size ≤ w'.heap.size ∧ F'.length ≤ j + 1 := by
  obtain ⟨F', hd, ha, hm⟩ := hp
  obtain ⟨h1, h2, h3⟩ := hm.base hb hb.size ht
  exact ⟨F', hd, by show Good cap (abs F'); rw [ha]; exact hg, h1, h2, h3, by have e1 := len_abs ha; have e2 : (abs F).length = F.length := (len_abs rfl).symm; omega⟩
theorem names_bl (ns : List (List UInt8)) : ∃ ss : List ByteArray, ss.length = ns.length ∧ ss.map Value.string = ns.map (fun s => Value.string ⟨s.toArray⟩) ∧ ss.map bl = ns :=
  ⟨ns.map fun s => ⟨s.toArray⟩, by simp, by rw [List.map_map]; rfl, by rw [List.map_map]; exact (List.map_congr_left (fun s _ => rfl)).trans (List.map_id _)⟩
theorem Good.appIf {cap : Int} {F : List Fl} {nm l : List UInt8} (h : Good cap (abs F)) : Good cap (if appE F cap nm l = 0 then appA (abs F) nm l else abs F) := by
  split
  · rename_i e
    unfold appE at e
    split at e
    · rename_i hf
      split at e
      · cases e
      · rename_i ht
        refine h.app hf ?_
        rw [total_abs] at ht
        have : sumA (abs F) = ((abs F).map fun a => a.2.1.length).sum := rfl
        rw [this]; omega
    · cases e
  · exact h
theorem good_ren {cap : Int} {F : List Fl} {A' : List Ab} {s t : List UInt8} (h : Good cap (abs F)) (h1 : renE F s t ≠ 0 → A' = abs F) (h2 : ∀ x, renE F s t = 0 → fileOf F s = some x → A' = putA (delA (abs F) s) (t, x.b, x.safe)) : Good cap A' := by
  by_cases e : renE F s t = 0
  · have e0 := e
    unfold renE at e
    split at e
    · rename_i hf
      simp only [Bool.and_eq_true] at hf
      split at e
      · rename_i hs
        obtain ⟨x, hx⟩ := Option.isSome_iff_exists.1 hs
        rw [h2 x e0 hx]
        obtain ⟨hm, hn⟩ := fileOf_mem hx
        have hma := mem_abs rfl hm
        have := h.ren hma (t := t) hf.2
        rw [hn] at this
        exact this
      · cases e
    · cases e
  · rw [h1 e]; exact h

theorem names_abs (F : List Fl) : F.map Fl.nm = (abs F).map Prod.fst := by unfold abs; rw [List.map_map]; rfl
theorem find_ok {F : List Fl} {cap : Int} (hg : Good cap (abs F)) {nm : List UInt8} (hn : nm ∈ (abs F).map Prod.fst) : findE F [⟨nm.toArray⟩] = 0 := by
  obtain ⟨a, ha, rfl⟩ := List.mem_map.1 hn
  have h1 := hg.nm a ha
  rw [← names_abs] at hn
  obtain ⟨x, hx⟩ := file_some hn
  have e : bl ⟨a.1.toArray⟩ = a.1 := rfl
  unfold findE
  simp only [List.all_cons, List.all_nil, Bool.and_true, e, h1, hx, Option.isSome_some, if_true]
theorem read_ok {w w' : World} {F : List Fl} {cap : Int} {nm : List UInt8} {e : Ending} (hg : Good cap (abs F)) (hn : nm ∈ (abs F).map Prod.fst) (hp : ReadPost w F ⟨nm.toArray⟩ e w') :
    ∃ (a : Option Addr) (c : Nat), e = .returned (.tuple #[.slice a (lenA (abs F) nm) c, .int .i64 0]) ∧ Below w.heap.size w w' := by
  obtain ⟨hb, ⟨h1, -⟩ | ⟨-, x, v, hx, hxn, rfl, ho⟩⟩ := hp
  · exact absurd (find_ok hg hn) h1
  · obtain ⟨a, c, rfl, -, -⟩ := owns_row ho
    have := lenA_mem hg.nd (mem_abs rfl hx)
    dsimp only at this
    rw [hxn] at this
    have e : bl ⟨nm.toArray⟩ = nm := rfl
    rw [e] at this
    exact ⟨a, c, by rw [this], hb⟩
theorem safe_ok {w w' : World} {F : List Fl} {cap : Int} {nm : List UInt8} {e : Ending} (hg : Good cap (abs F)) (hn : nm ∈ (abs F).map Prod.fst) (hp : SafePost w F ⟨nm.toArray⟩ e w') :
    ∃ k : Nat, e = .returned (.tuple #[.int .i64 k, .int .i64 0]) ∧ k ≤ lenA (abs F) nm ∧ Below w.heap.size w w' := by
  obtain ⟨hb, ⟨h1, -⟩ | ⟨-, x, hx, hxn, rfl⟩⟩ := hp
  · exact absurd (find_ok hg hn) h1
  · have := lenA_mem hg.nd (mem_abs rfl hx)
    have h2 := hg.sf _ (mem_abs rfl hx)
    dsimp only at this h2
    rw [hxn] at this
    have e : bl ⟨nm.toArray⟩ = nm := rfl
    rw [e] at this
    exact ⟨x.safe, rfl, by omega, hb⟩

theorem last_lt' {ns l : List (List UInt8)} (e : ns = sortL l) (h : l.Nodup) (hn : ∀ x ∈ l, x ≠ []) {i : Nat} (hi : i < ns.length) : lastOf ns i < ns[i] := by
  subst e; exact last_lt h hn hi
theorem last_succ {ns : List (List UInt8)} {i : Nat} (hi : i < ns.length) : lastOf ns (i + 1) = ns[i] := by
  show (ns[i]?).getD [] = _
  rw [List.getElem?_eq_getElem hi]; rfl
theorem names_ne {cap : Int} {A : List Ab} (h : Good cap A) : ∀ x ∈ A.map Prod.fst, x ≠ [] := fun x hx e => by
  obtain ⟨a, ha, rfl⟩ := List.mem_map.1 hx
  have := (fname_short (h.nm a ha)).1
  rw [e] at this; simp at this

set_option maxHeartbeats 4000000 in
theorem bound_walk (cap : Int) (a : Option Addr) (c : Nat) (os : List Oq) (w : World) (hr : RowAt w a (os.flatMap oqCells)) (ho : ∀ o ∈ os, OqAt w o) (hs : ∀ o ∈ os, o.dl.length ≤ 1048576 ∧ o.ns.length ≤ 1048576 ∧ o.cuts.length ≤ 1048576) (hm : os.length ≤ 1048576) :
    Calls Try.prog 4 #[.int .i64 cap, .slice a os.length c] w fun e w' => e = .returned (.bool true) ∧ Below w.heap.size w w' := by
  have HR := hid hr
  have HO := hid ho
  have HS := hid hs
  clear hr ho hs
  go_enter Try.func4, Try.ntmps4
  cases hn : newOk cap with
  | false =>
    have hc : cap < 0 ∨ 1073741824 < cap := by
      unfold newOk at hn
      simp only [Bool.and_eq_false_iff, decide_eq_false_iff_not] at hn
      omega
    go_wp2_with fail
    refine (disk_newE cap w hn).mono ?_
    rintro e w1 ⟨rfl, rfl⟩
    clear hn
    rcases hc with hc | hc
    · go_wp2_with fail
      refine (awake03 _).mono ?_
      rintro e w5 ⟨rfl, hb⟩
      have HBE := hid hb
      clear hb
      go_wp2_with fail
      go_ret
      exact ⟨rfl, HBE.out⟩
    · have hc2 : ¬ cap < 0 := by omega
      go_wp2_with fail
      refine (awake03 _).mono ?_
      rintro e w5 ⟨rfl, hb⟩
      have HBE := hid hb
      clear hb
      go_wp2_with fail
      go_ret
      exact ⟨rfl, HBE.out⟩
  | true =>
    have hc : 0 ≤ cap ∧ cap ≤ 1073741824 := by
      unfold newOk at hn
      simpa only [Bool.and_eq_true, decide_eq_true_eq] using hn
    obtain ⟨hc1, hc2⟩ := hc
    go_wp2_with fail
    refine (disk_new cap w hn).mono ?_
    rintro e w1 ⟨d, m, rfl, hd, hb, hd1, hm1⟩
    clear hn
    have HD := hid hd
    have HB := hid hb
    clear hd hb
    go_wp2_with fail
    go_loopw [39] (fun s wr => ∃ (j : Nat) (F : List Fl), s = .int .i64 j ∧ j ≤ os.length ∧ w.heap.size ≤ wr.heap.size ∧ F.length ≤ j ∧ Hid (DkAt wr d m cap F) ∧ Hid (Good cap (abs F)) ∧ Hid (Below w.heap.size w wr) ∧ Hid (∀ k, TabHas m F k → w.heap.size ≤ k)) (fun s _ => os.length - (intOf s).toNat)
    case atStart => exact ⟨0, [], rfl, Nat.zero_le _, HB.out.size, Nat.le_refl _, HD, Good.nil hc1, HB, fun k hk => by rcases hk with rfl | ⟨x, hx, -⟩; exact hm1; cases hx⟩
    case round =>
      clear HD HB
      obtain ⟨j, F, rfl, hj, hsz, hlen, HD, HG, HB, HT⟩ := hrel
      by_cases hlt : j < os.length
      · have HRw := hid (HR.out.below (HB.out.mono (Nat.le_refl _)))
        obtain ⟨b, o, rfl, hcell⟩ := row_oq HRw.out hlt
        have HOw := hid ((HO.out _ (List.getElem_mem hlt)).below HB.out)
        have HSw := hid (HS.out _ (List.getElem_mem hlt))
        have HOO := hid (HO.out _ (List.getElem_mem hlt))
        have hk0 := hcell 0 _ (by decide) rfl
        have hk1 := hcell 1 _ (by decide) rfl
        have hk2 := hcell 2 _ (by decide) rfl
        have hk3 := hcell 3 _ (by decide) rfl
        have hk4 := hcell 4 _ (by decide) rfl
        have hk5 := hcell 5 _ (by decide) rfl
        clear hcell
        rw [Nat.add_zero] at hk0
        generalize os[j] = q at *
        obtain ⟨da, dc, hde, -, -, hdc1, hdc2⟩ := id HOw.out.data
        have HDE := hid hde
        rw [hde] at hk3
        clear hde
        go_upto_region 7 with fail
        have hbn := below_new (w := wr) (.cells #[.int .i64 q.kind, .string ⟨q.a.toArray⟩, .string ⟨q.b.toArray⟩, .slice da q.dl.length dc, .slice q.na q.ns.length q.nc, .slice q.ca q.cuts.length q.cc] 48)
        have HX := hid (ObjAt.new wr 48 #[.int .i64 q.kind, .string ⟨q.a.toArray⟩, .string ⟨q.b.toArray⟩, .slice da q.dl.length dc, .slice q.na q.ns.length q.nc, .slice q.ca q.cuts.length q.cc])
        have HB2 := hid (HB.out.alloc hsz (.cells #[.int .i64 q.kind, .string ⟨q.a.toArray⟩, .string ⟨q.b.toArray⟩, .slice da q.dl.length dc, .slice q.na q.ns.length q.nc, .slice q.ca q.cuts.length q.cc] 48))
        have HD2 := hid (HD.out.below hbn)
        have HO2 := hid (HOw.out.below hbn)
        have hsz2 := Nat.le_trans hsz hbn.size
        clear hk0 hk1 hk2 hk3 hk4 hk5 hbn HD HB HOw HRw
        generalize wr.alloc (.cells #[.int .i64 q.kind, .string ⟨q.a.toArray⟩, .string ⟨q.b.toArray⟩, .slice da q.dl.length dc, .slice q.na q.ns.length q.nc, .slice q.ca q.cuts.length q.cc] 48) = W2 at *
        generalize wr.heap.size = op at *
        have e0 := HX.out.cell 0 _ rfl
        have e1 := HX.out.cell 1 _ rfl
        have e2 := HX.out.cell 2 _ rfl
        have e3 := HX.out.cell 3 _ rfl
        have e4 := HX.out.cell 4 _ rfl
        have e5 := HX.out.cell 5 _ rfl
        go_upto_block 2 with fail
        go_cut [] from 45 to 79 (fun wx => ∃ F' : List Fl, Hid (DkAt wx d m cap F') ∧ Hid (Good cap (abs F')) ∧ Hid (Below w.heap.size w wx) ∧ Hid (∀ k, TabHas m F' k → w.heap.size ≤ k) ∧ w.heap.size ≤ wx.heap.size ∧ F'.length ≤ j + 1)
        case first =>
          clear e0 e1 e2 e3 e4 e5
          have e0 := HX.out.cell 0 (.int .i64 q.kind) rfl
          have htot : Hid ((total F : Int) ≤ cap) := by
            show (total F : Int) ≤ cap
            rw [total_abs]; exact HG.out.tot
          by_cases k1 : q.kind = 1
          · have hl1 : q.dl.length ≤ 1048576 := HSw.out.1
            have HDA : Hid (IsBytes W2 (.slice da q.dl.length dc) q.dl) := by
              have := HO2.out.data
              rw [HDE.out] at this
              exact this
            have b1 : (q.kind == 1) = true := by rw [k1]; rfl
            clear k1
            have e1 := HX.out.cell 1 (.string ⟨q.a.toArray⟩) rfl
            have e3 := HX.out.cell 3 (.slice da q.dl.length dc) rfl
            go_wp2_with fail
            go_region_with (first
              | (go_at_call 14; refine (ref_copy _ q.dl _ (HDA.out.below (below_drewN' 1)) (by omega)).mono ?_; rintro e w3 ⟨v, rfl, hov, hb⟩; have HB3 : Hid (Below W2.heap.size W2 w3) := ⟨hb.os, hb.tape, hb.output, hb.size, hb.block⟩; have e1' := (HX.out.below HB3.out).cell 1 _ rfl; have HOV := hid hov; clear hov hb)
              | (go_at_call 7; refine (disk_append d m cap F _ _ q.dl _ (HD2.out.below HB3.out) (owns_bytes HOV.out) (fun k e hh => by have h1 := (HOV.out.lt k e).1; have h2 := HD2.out.tab.lt k hh; have h3 : W2.heap.size ≤ k := h1; omega) htot.out hc2 (by omega)).mono ?_; rintro e w4 ⟨rfl, F4, hd4, ha4, hv4⟩; have HN4 := hid (bound_next ⟨F4, hd4, ha4, (Moved.below HB3.out).trans hv4⟩ HG.out.appIf HB2.out HT.out (by split; exact appA_len _ _ _; omega) hlen); clear hd4 ha4 hv4))
            all_goals
              go_wp2_with fail
              go_meet
              case rel => exact HN4.out
          · by_cases k2 : q.kind = 2
            · have b1 : (q.kind == 1) = false := beq_eq_false_iff_ne.2 k1
              have b2 : (q.kind == 2) = true := by rw [k2]; rfl
              clear k1 k2
              obtain ⟨ss, hs1, hs2, hs3⟩ := names_bl q.ns
              have e4 := HX.out.cell 4 (.slice q.na q.ns.length q.nc) rfl
              have hl2 : q.ns.length ≤ 1048576 := HSw.out.2.1
              have HNR : Hid (RowAt W2 q.na (ss.map Value.string)) := by
                show RowAt _ _ _
                rw [hs2]; exact HO2.out.names
              rw [← hs1] at e4 hl2
              clear hs1 hs2 hs3
              go_wp2_with fail
              refine (disk_sync d m cap F q.na ss q.nc W2 HD2.out HNR.out hl2).mono ?_
              rintro e w4 ⟨rfl, hp⟩
              have HN4 := hid (bound_next hp (by split; exact HG.out.syn _; exact HG.out) HB2.out HT.out (by split; rw [synA_len]; omega; omega) hlen)
              clear hp
              go_wp2_with fail
              go_meet
              case rel => exact HN4.out
            · by_cases k3 : q.kind = 3
              · have b1 : (q.kind == 1) = false := beq_eq_false_iff_ne.2 k1
                have b2 : (q.kind == 2) = false := beq_eq_false_iff_ne.2 k2
                have b3 : (q.kind == 3) = true := by rw [k3]; rfl
                clear k1 k2 k3
                have e1 := HX.out.cell 1 (.string ⟨q.a.toArray⟩) rfl
                have e2 := HX.out.cell 2 (.string ⟨q.b.toArray⟩) rfl
                go_wp2_with fail
                refine (disk_rename d m cap F ⟨q.a.toArray⟩ ⟨q.b.toArray⟩ W2 HD2.out).mono ?_
                rintro e w4 ⟨A4, ⟨rfl, hp⟩, hn1, hn2⟩
                have HN4 := hid (bound_next hp (good_ren HG.out hn1 hn2) HB2.out HT.out (ren_len hn1 hn2) hlen)
                clear hp hn1 hn2
                go_wp2_with fail
                go_meet
                case rel => exact HN4.out
              · by_cases k4 : q.kind = 4
                · have b1 : (q.kind == 1) = false := beq_eq_false_iff_ne.2 k1
                  have b2 : (q.kind == 2) = false := beq_eq_false_iff_ne.2 k2
                  have b3 : (q.kind == 3) = false := beq_eq_false_iff_ne.2 k3
                  have b4 : (q.kind == 4) = true := by rw [k4]; rfl
                  clear k1 k2 k3 k4
                  obtain ⟨ss, hs1, hs2, hs3⟩ := names_bl q.ns
                  have e4 := HX.out.cell 4 (.slice q.na q.ns.length q.nc) rfl
                  have hl2 : q.ns.length ≤ 1048576 := HSw.out.2.1
                  have HNR : Hid (RowAt W2 q.na (ss.map Value.string)) := by
                    show RowAt _ _ _
                    rw [hs2]; exact HO2.out.names
                  have HOF : Hid (∀ ad, q.na = some ad → ss ≠ [] → ¬ TabHas m F ad.block) := fun ad e hne hh => by
                    have h1 := HT.out _ hh
                    have h2 := HOO.out.names.lt (by rw [← hs2]; intro hx; exact hne (by simpa using hx)) ad e
                    omega
                  rw [← hs1] at e4 hl2
                  clear hs1 hs2 hs3
                  go_wp2_with fail
                  refine (disk_remove d m cap F q.na ss q.nc W2 HD2.out HNR.out hl2 HOF.out).mono ?_
                  rintro e w4 ⟨rfl, hp⟩
                  have HN4 := hid (bound_next hp (by split; exact HG.out.rem _; exact HG.out) HB2.out HT.out (by split; exact Nat.le_trans (remA_len _ _) (Nat.le_succ _); omega) hlen)
                  clear hp
                  go_wp2_with fail
                  go_meet
                  case rel => exact HN4.out
                · by_cases k5 : q.kind = 5
                  · have b1 : (q.kind == 1) = false := beq_eq_false_iff_ne.2 k1
                    have b2 : (q.kind == 2) = false := beq_eq_false_iff_ne.2 k2
                    have b3 : (q.kind == 3) = false := beq_eq_false_iff_ne.2 k3
                    have b4 : (q.kind == 4) = false := beq_eq_false_iff_ne.2 k4
                    have b5 : (q.kind == 5) = true := by rw [k5]; rfl
                    clear k1 k2 k3 k4 k5
                    have e5 := HX.out.cell 5 (.slice q.ca q.cuts.length q.cc) rfl
                    have HOF : Hid (q.cuts ≠ [] → ∀ ad, q.ca = some ad → ad.block < W2.heap.size → ¬ TabHas m F ad.block) := fun hne ad e _ hh => by
                      have h1 := HT.out _ hh
                      have h2 := HOO.out.cuts.lt (by simpa using hne) ad e
                      omega
                    go_wp2_with fail
                    refine (disk_crash d m cap F q.ca q.cuts q.cc W2 HD2.out HO2.out.cuts HO2.out.c1 HO2.out.c2 (fun x hx => HG.out.sf _ (mem_abs rfl hx)) (by have := htot.out; omega) (fun x hx => by have := (fname_short (HG.out.nm _ (mem_abs rfl hx))).2; have h2 : x.nm.length ≤ 40 := this; unfold maxLen; omega) (by omega) HOF.out).mono ?_
                    rintro e w4 ⟨rfl, hp⟩
                    have HN4 := hid (bound_next hp (HG.out.crash _) HB2.out HT.out (by rw [crashA_len]; omega) hlen)
                    clear hp
                    go_wp2_with fail
                    go_meet
                    case rel => exact HN4.out
                  · have h1 : (q.kind == 1) = false := beq_eq_false_iff_ne.2 k1
                    have h2 : (q.kind == 2) = false := beq_eq_false_iff_ne.2 k2
                    have h3 : (q.kind == 3) = false := beq_eq_false_iff_ne.2 k3
                    have h4 : (q.kind == 4) = false := beq_eq_false_iff_ne.2 k4
                    have h5 : (q.kind == 5) = false := beq_eq_false_iff_ne.2 k5
                    clear k1 k2 k3 k4 k5
                    have HN4 := hid (bound_next ⟨F, HD2.out, rfl, Moved.refl _ _ _⟩ HG.out HB2.out HT.out (by omega) hlen)
                    go_wp2_with fail
                    go_meet
                    case rel => exact HN4.out
        case rest =>
          clear HD2 HG HB2 HT HO2 HX e0 e1 e2 e3 e4 e5
          obtain ⟨F', HD, HG, HB, HT, hsx, hlen'⟩ := hcut
          have d0 := HD.out.obj.cell 0 (.map (some m)) rfl
          go_wp2_with fail
          have HTOT : Hid ((total F' : Int) ≤ cap) := by
            show (total F' : Int) ≤ cap
            rw [total_abs]; exact HG.out.tot
          refine (tab_files m F' _ HD.out.tab (fun x hx => by have := (fname_short (HG.out.nm _ (mem_abs rfl hx))).2; have h2 : x.nm.length ≤ 40 := this; unfold maxLen; omega) (by omega)).mono ?_
          rintro e w5 ⟨v, rfl, ho, hb⟩
          obtain ⟨va, vc, rfl, hrn, -⟩ := owns_row ho
          rw [names_abs] at hrn
          obtain ⟨ns, hns⟩ : ∃ ns, ns = sortL ((abs F').map Prod.fst) := ⟨_, rfl⟩
          have hnl : F'.length = ns.length := by rw [hns, sortL_len, List.length_map]; exact len_abs rfl
          rw [← hns] at hrn
          rw [hnl]
          have HNS := hid hns
          have HRN := hid hrn
          have HD5 := hid (HD.out.below hb)
          have HB5 := hid (HB.out.trans (hb.mono hsx))
          have hs5 := Nat.le_trans hsx hb.size
          have hnm : ns.length ≤ 1048576 := by omega
          clear hns hrn ho hb hnl HD HB d0
          go_wp2_with fail
          generalize hw5 : w5.heap.size = s5 at *
          have HW5 := hid hw5
          clear hw5
          go_loopw [9, 10, 86] (fun s9 s10 s86 wz => ∃ i : Nat, s9 = .int .i64 ((sumTo (abs F') ns i : Nat) : Int) ∧ s10 = .string ⟨(lastOf ns i).toArray⟩ ∧ s86 = .int .i64 i ∧ i ≤ ns.length ∧ Hid (Below s5 w5 wz)) (fun _ _ s86 _ => ns.length - (intOf s86).toNat)
          case atStart => exact ⟨0, rfl, rfl, rfl, Nat.zero_le _, Below.refl _ _⟩
          case round =>
            obtain ⟨i, rfl, rfl, rfl, hi, HBz⟩ := hrel
            have hbz : Below w5.heap.size w5 wr := by rw [HW5.out]; exact HBz.out
            have HDz := hid (HD5.out.below hbz)
            have HRz := hid (HRN.out.below hbz)
            clear hbz
            by_cases hlt2 : i < ns.length
            · obtain ⟨b2, o2, rfl, hcn⟩ := name_at HRz.out hlt2
              have HSU := hid (sumTo_succ (abs F') ns i hlt2)
              have HLL := hid (last_lt' HNS.out HG.out.nd (names_ne HG.out) hlt2)
              have HLS := hid (last_succ hlt2)
              have hm0 := List.getElem_mem hlt2
              generalize ns[i] = nm at *
              have HMN : Hid (nm ∈ (abs F').map Prod.fst) := sort_mem.1 (by rw [HNS.out] at hm0; exact hm0)
              clear hm0
              have hsz3 : s5 ≤ wr.heap.size := by have := HBz.out.size; have := HW5.out; omega
              have HST : Hid (sumTo (abs F') ns (i + 1) ≤ 1073741824) := by
                show _ ≤ _
                have h1 := sumTo_le HG.out.nd (i + 1)
                rw [← HNS.out] at h1
                have h2 := HG.out.tot
                omega
              go_wp2_with fail
              refine (disk_read d m cap F' ⟨nm.toArray⟩ wr HDz.out (by have := HTOT.out; omega)).mono ?_
              rintro e w6 hp
              obtain ⟨ba, bc, rfl, hb6⟩ := read_ok HG.out HMN.out hp
              have HD6 := hid (HDz.out.below hb6)
              have HB6 := hid (HBz.out.trans (hb6.mono hsz3))
              have hs6 := Nat.le_trans hsz3 hb6.size
              clear hp hb6 HDz HBz HRz hcn
              go_wp2_with fail
              refine (disk_safe d m cap F' ⟨nm.toArray⟩ w6 HD6.out).mono ?_
              rintro e w7 hp
              obtain ⟨sk, rfl, hsk, hb7⟩ := safe_ok HG.out HMN.out hp
              have HB7 := hid (HB6.out.trans (hb7.mono hs6))
              clear hp hb7 HD6 HB6
              have hl1 : Op.bytesLess nm (lastOf ns i) = false := by
                rw [bytesLess_eq]; exact decide_eq_false (fun h => absurd (List.lt_trans h HLL.out) (List.lt_irrefl _))
              have hl2 : (nm == lastOf ns i) = false := by
                rw [beq_dec]; exact decide_eq_false (fun h => absurd (h ▸ HLL.out) (List.lt_irrefl _))
              have hsum : ((sumTo (abs F') ns i : Nat) : Int) + (lenA (abs F') nm : Nat) = ((sumTo (abs F') ns (i + 1) : Nat) : Int) := by rw [HSU.out]; omega
              have HSUM := hid hsum
              clear hsum
              generalize lenA (abs F') nm = L at *
              generalize hla : lastOf ns i = la at *
              have HLA := hid hla
              clear hla
              have hu1 : ((sumTo (abs F') ns i : Nat) : Int) + (L : Nat) ≤ 1073741824 := by have := HSUM.out; have := HST.out; omega
              go_wp2_with fail
              go_roundw
              case rel => exact ⟨i + 1, int_v HSUM.out, by rw [HLS.out], by go_num, by omega, HB7⟩
              case measure => simp [intOf]; omega
            · have hie : i = ns.length := by omega
              have HFIN : Hid (sumTo (abs F') ns i = total F') := by
                show _ = _
                rw [hie, total_abs]
                have := sumTo_all HG.out.nd
                rw [← HNS.out] at this
                exact this
              clear hie HRz
              have d0 := HDz.out.obj.cell 0 (.map (some m)) rfl
              have HBw := hid (HB5.out.trans (HBz.out.mono (by omega)))
              have hsz3 : s5 ≤ wr.heap.size := by have := HBz.out.size; have := HW5.out; omega
              rw [HFIN.out]
              have htc := HTOT.out
              go_wp2_with fail
              refine (tab_used m F' wr HDz.out.tab (by omega)).mono ?_
              rintro e w8 ⟨rfl, hb⟩
              have HB8 := hid (HBw.out.trans (hb.mono (by omega)))
              have HD8 := hid (HDz.out.below hb)
              have hs8 : w.heap.size ≤ w8.heap.size := by have := hb.size; omega
              clear hb HDz HBw HBz
              have hneq : (total F' != total F') = false := by simp
              go_wp2_with fail
              go_roundw
              case rel => exact ⟨j + 1, F', by go_num, by omega, hs8, hlen', HD8, HG, HB8, HT⟩
              case measure => simp [intOf]; omega
      · have hje : j = os.length := by omega
        clear hje
        go_wp2_with fail
        refine (awake03 _).mono ?_
        rintro e w9 ⟨rfl, hb⟩
        have HB9 := hid (HB.out.trans (hb.mono hsz))
        clear hb HB
        go_wp2_with fail
        go_ret
        exact ⟨rfl, HB9.out⟩
end Go.Proofs.Ytibhkkfbhbnmeaa
