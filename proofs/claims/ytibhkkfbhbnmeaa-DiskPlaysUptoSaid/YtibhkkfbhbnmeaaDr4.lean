/-
  Both disks side by side.
-/
import Derived.Test.YtibhkkfbhbnmeaaDr3
import Derived.Test.YtibhkkfbhbnmeaaDskW
namespace Go.Proofs.Ytibhkkfbhbnmeaa
open Go.RowKit
set_option maxRecDepth 20000
set_option linter.unusedVariables false

theorem DkAt.keptS {S : Nat → Prop} {w w' : World} {d m : Nat} {cap : Int} {F : List Fl} (h : DkAt w d m cap F) (hk : KeptS S w w') (hn : ∀ k, (k = d ∨ TabHas m F k) → ¬ S k) : DkAt w' d m cap F := ⟨h.obj.keptS hk (hn _ (.inl rfl)), h.tab.keptS hk (fun k e => hn k (.inr e))⟩
theorem DkAt.lt {w : World} {d m : Nat} {cap : Int} {F : List Fl} (h : DkAt w d m cap F) : ∀ k, (k = d ∨ TabHas m F k) → k < w.heap.size := fun k e => by
  rcases e with rfl | e
  · exact h.obj.lt
  · exact h.tab.lt k e
structure Jn (B : Nat) (w wr : World) (d m xd : Nat) (cap : Int) (F : List Fl) (lv : Value) (L : List Fr) : Prop where
  dk : DkAt wr d m cap F
  rf : RfD wr xd cap B lv L
  dj : ∀ k, (k = d ∨ TabHas m F k) → ¬ RHas xd lv L k
  hb : ∀ k, (k = d ∨ TabHas m F k) → B ≤ k
  bel : Below B w wr
  sz : B ≤ wr.heap.size
section
variable {B : Nat} {w wr w' : World} {d m xd : Nat} {cap : Int} {F : List Fl} {lv : Value} {L : List Fr}
theorem Jn.below (h : Jn B w wr d m xd cap F lv L) (hb : Below wr.heap.size wr w') : Jn B w w' d m xd cap F lv L :=
  ⟨h.dk.below hb, h.rf.below hb, h.dj, h.hb, h.bel.trans (hb.mono h.sz), Nat.le_trans h.sz hb.size⟩
theorem Jn.prog {F' : List Fl} (h : Jn B w wr d m xd cap F lv L) (hd : DkAt w' d m cap F') (hm : Moved wr w' m F F') : Jn B w w' d m xd cap F' lv L := by
  have hs : wr.heap.size ≤ w'.heap.size := hm.2.size
  refine ⟨hd, h.rf.keptS hm.2 (fun k hk ht => h.dj k (.inr ht) hk), fun k hk hr => ?_, fun k hk => ?_, h.bel.trans (hm.2.below (fun k hk => h.hb k (.inr hk)) h.sz), Nat.le_trans h.sz hs⟩
  · rcases hk with rfl | hk
    · exact h.dj _ (.inl rfl) hr
    · rcases hm.1 k hk with hk | hk
      · exact h.dj k (.inr hk) hr
      · have := (h.rf.lt k hr).2; omega
  · rcases hk with rfl | hk
    · exact h.hb _ (.inl rfl)
    · rcases hm.1 k hk with hk | hk
      · exact h.hb k (.inr hk)
      · have := h.sz; omega
theorem Jn.doc {lv' : Value} {L' : List Fr} (h : Jn B w wr d m xd cap F lv L) (hd : RfD w' xd cap B lv' L') (hm : RMoved wr w' xd lv L lv' L') : Jn B w w' d m xd cap F lv' L' := by
  have hs : wr.heap.size ≤ w'.heap.size := hm.2.size
  refine ⟨h.dk.keptS hm.2 (fun k hk => h.dj k hk), hd, fun k hk hr => ?_, h.hb, h.bel.trans (hm.2.below (fun k hk => (h.rf.lt k hk).1) h.sz), Nat.le_trans h.sz hs⟩
  rcases hm.1 k hr with hr | hr
  · exact h.dj k hk hr
  · have := h.dk.lt k hk; omega
end
theorem appE_apE {F : List Fl} {L : List Fr} {cap : Int} {nm l : List UInt8} (h : Rel L (abs F)) : appE F cap nm l = apE L cap nm l := by
  unfold appE apE
  rw [h.sum, total_abs]; rfl
theorem Rel.flen {F : List Fl} {L : List Fr} (h : Rel L (abs F)) : L.length = F.length := by
  rw [h.len]; unfold abs; simp

theorem findE_allR {F : List Fl} {L : List Fr} (h : Rel L (abs F)) (ss : List ByteArray) : findE F ss = allR L (ss.map bl) := by
  rw [findE_abs rfl]
  unfold allR
  rw [List.all_map, List.all_map]
  have e : (ss.all fun s => (abs F).any fun a => decide (a.1 = bl s)) = ss.all ((fun s => decide (0 ≤ findR L s)) ∘ bl) := by
    congr 1; funext s; exact h.any (bl s)
  rw [e]; rfl
theorem file_same {F : List Fl} {L : List Fr} {cap : Int} (h : Rel L (abs F)) (hg : Good cap (abs F)) {x : Fl} (hx : x ∈ F) {i : Nat} (hi : i < L.length) (he : L[i].nm = x.nm) : L[i].b = x.b ∧ L[i].safe = x.safe := by
  have h1 := h.1.mem_iff.1 (List.mem_map.2 ⟨L[i], List.getElem_mem hi, rfl⟩)
  have h2 := mem_abs rfl hx
  have := nd_eq hg.nd h1 h2 he
  simp only [Prod.mk.injEq] at this
  exact ⟨this.2.1, this.2.2⟩

theorem conv_bytes (w : World) (nm : List UInt8) (hm : nm.length ≤ 1048576) : ∃ c W, (convert 9 32 (.string ⟨nm.toArray⟩)).run Try.prog w = .ok (.slice (some ⟨w.heap.size, 0, none⟩) nm.length c) W ∧ IsBytes W (.slice (some ⟨w.heap.size, 0, none⟩) nm.length c) nm ∧ Below w.heap.size w W := by
  have hsz : (ByteArray.mk nm.toArray).size = nm.length := by simp [ByteArray.size]
  have hcv := Lib.run_convert_string_bytes (P := Try.prog) w 9 32 5 ⟨nm.toArray⟩ Try.underlying9 Try.underlying32 Try.underlying5
  have hIs := bytesW_is w ⟨nm.toArray⟩ (by rw [hsz]; unfold maxLen; omega)
  rw [hsz] at hcv hIs
  exact ⟨_, _, hcv, hIs, bytesW_below w 5 ⟨nm.toArray⟩⟩

set_option maxHeartbeats 4000000 in
theorem reads_walk (a : Option Addr) (c : Nat) (ns : List (List UInt8)) (ask : List UInt8) (w : World) (hr : RowAt w a (ns.map fun s => Value.string ⟨s.toArray⟩)) (hm : ns.length ≤ 1048576) (hs : ∀ s ∈ ns, s.length ≤ 1048576) (hask : ask.length ≤ 1048576) :
    Calls Try.prog 3 #[.slice a ns.length c, .string ⟨ask.toArray⟩] w fun e w' => e = .returned (.bool true) ∧ Below w.heap.size w w' := by
  have HR := hid hr
  have HS := hid hs
  clear hr hs
  go_enter Try.func3, Try.ntmps3
  go_wp2_with fail
  refine (disk_new 1048576 w (by decide)).mono ?_
  rintro e w1 ⟨d, m, rfl, hd, hb, hd1, hm1⟩
  have HD := hid hd
  have HB := hid hb
  clear hd hb
  have hbn := below_new (w := w1) (.cells #[.int .i64 1048576, .slice none 0 0] 30)
  have HJ : Hid (Jn w.heap.size w (w1.alloc (.cells #[.int .i64 1048576, .slice none 0 0] 30)) d m w1.heap.size 1048576 [] (.slice none 0 0) []) := by
    have hk : ∀ k, (k = d ∨ TabHas m [] k) → w.heap.size ≤ k ∧ k < w1.heap.size := fun k e => by
      refine ⟨?_, HD.out.lt k e⟩
      rcases e with rfl | rfl | ⟨x, hx, -⟩
      · exact hd1
      · exact hm1
      · cases hx
    refine ⟨HD.out.below hbn, ⟨ObjAt.new _ _ _, ⟨rfl, .inl ⟨rfl, rfl⟩⟩, by simp, HB.out.size⟩, fun k e hr => ?_, fun k e => (hk k e).1, HB.out.trans (hbn.mono HB.out.size), Nat.le_trans HB.out.size hbn.size⟩
    rcases hr with rfl | e2 | ⟨x, hx, -⟩
    · exact absurd (hk _ e).2 (Nat.lt_irrefl _)
    · cases e2
    · cases hx
  clear hbn HD
  go_wp2_with fail
  generalize w1.heap.size = xd at *
  go_loopw [30] (fun s wr => ∃ (j : Nat) (F : List Fl) (lv : Value) (L : List Fr), s = .int .i64 j ∧ j ≤ ns.length ∧ F.length ≤ j ∧ Hid (Jn w.heap.size w wr d m xd 1048576 F lv L) ∧ Hid (Rel L (abs F)) ∧ Hid (Good 1048576 (abs F)) ∧ Hid (∀ x ∈ abs F, x.2.2 = 0)) (fun s _ => ns.length - (intOf s).toNat)
  case atStart => exact ⟨0, [], _, [], rfl, Nat.zero_le _, Nat.le_refl _, HJ.out, ⟨List.Perm.refl _, List.Pairwise.nil⟩, ⟨List.nodup_nil, by simp [sumA, abs], by simp [abs], by simp [abs]⟩, fun x hx => by simp [abs] at hx⟩
  case round =>
    clear HJ
    obtain ⟨j, F, lv, L, rfl, hj, hfl, HJ, HRL, HG, HZ⟩ := hrel
    by_cases hlt : j < ns.length
    · have HRw := hid (HR.out.below (HJ.out.bel.mono (Nat.le_refl _)))
      obtain ⟨b, o, rfl, r0⟩ := name_row HRw.out hlt
      have hsz := HS.out ns[j] (List.getElem_mem hlt)
      generalize ns[j] = nm at *
      obtain ⟨k1, W1, hcv, his, hbw⟩ := conv_bytes wr nm hsz
      have HIS := hid his
      have HJ1 := hid (HJ.out.below hbw)
      have HWR := hid (HJ.out.dk.lt)
      clear his hbw
      have htot : (total F : Int) ≤ 1048576 := by rw [total_abs]; exact HG.out.tot
      go_wp2_with fail
      refine (disk_append d m 1048576 F ⟨nm.toArray⟩ _ nm W1 HJ1.out.dk HIS.out (fun k e hh => by cases e; exact absurd (HWR.out _ (.inr hh)) (Nat.lt_irrefl _)) htot (by omega) (by omega)).mono ?_
      rintro e w2 ⟨rfl, F2, hd2, ha2, hm2⟩
      have HJ2 := hid (HJ1.out.prog hd2 hm2)
      have ebl : bl ⟨nm.toArray⟩ = nm := rfl
      rw [ebl] at ha2 ⊢
      have HA2 := hid ha2
      clear hd2 hm2 ha2 ebl hcv
      obtain ⟨k2, W2, hcv, his, hbw⟩ := conv_bytes w2 nm hsz
      have HIS2 := hid his
      have HJ3 := hid (HJ2.out.below hbw)
      clear his hbw HJ HJ1 HJ2 HIS
      rw [appE_apE HRL.out]
      have hln : L.length ≤ 1048576 := by rw [HRL.out.flen]; omega
      have hsr : sumR L ≤ 1073741824 := by
        rw [HRL.out.sum]
        have := HG.out.tot
        omega
      obtain ⟨code, hcode⟩ : ∃ k, k = apE L 1048576 nm nm := ⟨_, rfl⟩
      rw [← hcode]
      have HC := hid hcode
      clear hcode
      go_wp2_with fail
      refine (refd_append xd _ 1048576 lv L nm nm _ W2 HJ3.out.rf hln HIS2.out (by omega) hsr (by omega) hsz).mono ?_
      rintro e w3 ⟨rfl, lv3, L3, hd3, hr3, hm3⟩
      rw [← HC.out]
      have HJ4 := hid (HJ3.out.doc hd3 hm3)
      have HE : Hid (appE F 1048576 nm nm = code) := by show _ = _; rw [appE_apE HRL.out, HC.out]
      have HAA : Hid (abs F2 = if code = 0 then appA (abs F) nm nm else abs F) := by
        show _ = _
        have := HA2.out
        rw [HE.out] at this
        exact this
      have HR3 : Hid (Rel L3 (abs F2)) := by
        show Rel L3 (abs F2)
        have := hr3 _ HRL.out
        rw [HAA.out, HC.out]
        exact this
      have HG3 : Hid (Good 1048576 (abs F2)) := by
        show Good _ _
        rw [HA2.out]; exact HG.out.appIf
      have HZ3 : Hid (∀ x ∈ abs F2, x.2.2 = 0) := by
        show ∀ x ∈ abs F2, _
        rw [HAA.out]
        split
        · unfold appA
          split
          · intro x hx
            obtain ⟨y, hy, rfl⟩ := List.mem_map.1 hx
            have := HZ.out y hy
            split <;> exact this
          · intro x hx
            rcases List.mem_append.1 hx with h | h
            · exact HZ.out x h
            · rw [List.mem_singleton.1 h]
        · exact HZ.out
      have hfl3 : F2.length ≤ j + 1 := by
        have e1 := len_abs HAA.out
        rw [e1]
        split
        · have := appA_len (abs F) nm nm
          have e2 : (abs F).length = F.length := by unfold abs; simp
          omega
        · have e2 : (abs F).length = F.length := by unfold abs; simp
          omega
      have hcc : (code != code) = false := by simp
      clear hd3 hr3 hm3 HA2 HAA HE HJ3 hcv
      go_wp2_with fail
      go_roundw
      case rel => exact ⟨j + 1, F2, lv3, L3, by go_num, by omega, hfl3, HJ4.out, HR3.out, HG3.out, HZ3.out⟩
      case measure => simp [intOf]; omega
    · clear HB
      go_wp2_with fail
      have htot : (total F : Int) ≤ 1048576 := by rw [total_abs]; exact HG.out.tot
      refine (disk_read d m 1048576 F ⟨ask.toArray⟩ wr HJ.out.dk (by omega)).mono ?_
      rintro e w2 ⟨hb2, hc2⟩
      have HJ2 := hid (HJ.out.below hb2)
      have ebl : bl ⟨ask.toArray⟩ = ask := rfl
      have hfa := findE_allR HRL.out [⟨ask.toArray⟩]
      rw [List.map_cons, List.map_nil, ebl] at hfa
      have HFA := hid hfa
      have hln : L.length ≤ 1048576 := by rw [HRL.out.flen]; omega
      clear hb2 hfa
      rcases hc2 with ⟨hne, rfl⟩ | ⟨heq, x, v, hx, hxn, rfl, hov⟩
      · obtain ⟨k, hk⟩ : ∃ k, k = findE F [⟨ask.toArray⟩] := ⟨_, rfl⟩
        rw [← hk] at hne ⊢
        have HK := hid hk
        have HNE := hid hne
        clear hk hne HJ
        go_wp2_with fail
        refine (disk_safe d m 1048576 F ⟨ask.toArray⟩ w2 HJ2.out.dk).mono ?_
        rintro e w3 ⟨hb3, hc3⟩
        have HJ3 := hid (HJ2.out.below hb3)
        clear hb3
        rcases hc3 with ⟨-, rfl⟩ | ⟨heq, -⟩
        · rw [← HK.out]
          clear HJ2
          go_wp2_with fail
          refine (refd_read xd _ 1048576 lv L ask w3 HJ3.out.rf (by omega) hask).mono ?_
          rintro e w4 ⟨rfl, hb4⟩
          rw [← HFA.out, ← HK.out, if_neg HNE.out]
          have HJ4 := hid (HJ3.out.below hb4)
          clear hb4 HJ3
          have hk1 : (k != k) = false := by simp
          have hk2 : (k != 0) = true := by have := HNE.out; simpa using this
          have hk3 : (k == 0) = false := by have := HNE.out; simpa using this
          go_wp2_with fail
          refine (awake03 w4).mono ?_
          rintro e w5 ⟨rfl, hb5⟩
          have HB5 := hid (HJ4.out.below hb5).bel
          clear hb5 HJ4
          go_wp2_with fail
          go_ret
          exact ⟨rfl, HB5.out⟩
        · exact absurd (HK.out.trans heq) HNE.out
      · obtain ⟨va, vc, rfl, -, -⟩ := owns_row hov
        have HOV := hid (owns_bytes hov)
        rw [ebl] at hxn
        have hzx : x.safe = 0 := HZ.out _ (mem_abs rfl hx)
        have hf0 : 0 ≤ findR L ask := by
          have e1 := HFA.out
          rw [heq] at e1
          unfold allR at e1
          split at e1
          · split at e1
            · rename_i h; simpa using h
            · cases e1
          · cases e1
        obtain ⟨i, hfi⟩ : ∃ i, L.findIdx? (fun x => x.nm == ask) = some i := by
          cases h : L.findIdx? (fun x => x.nm == ask) with
          | none => rw [findR_none h] at hf0; omega
          | some i => exact ⟨i, rfl⟩
        have hfe := findR_some hfi
        rw [List.findIdx?_eq_some_iff_getElem] at hfi
        obtain ⟨hi, hnmi, -⟩ := hfi
        have hnm2 : L[i].nm = ask := by simpa using hnmi
        have HSB := hid (file_same HRL.out HG.out hx hi (by rw [hnm2, hxn])).1
        have HHQ := hid heq
        have HFE := hid hfe
        have HX := hid hx
        clear heq hov hf0 hfe hnmi hnm2 hx HJ
        go_wp2_with fail
        refine (disk_safe d m 1048576 F ⟨ask.toArray⟩ w2 HJ2.out.dk).mono ?_
        rintro e w3 ⟨hb3, hc3⟩
        have HJ3 := hid (HJ2.out.below hb3)
        have HOV3 := hid (HOV.out.below hb3)
        clear hb3 HOV
        rcases hc3 with ⟨hne, -⟩ | ⟨-, y, hy, hyn, rfl⟩
        · exact absurd HHQ.out hne
        · have hzy : y.safe = 0 := HZ.out _ (mem_abs rfl hy)
          rw [hzy]
          clear HJ2 hy hyn hzy hzx hxn
          go_wp2_with fail
          refine (refd_read xd _ 1048576 lv L ask w3 HJ3.out.rf (by omega) hask).mono ?_
          rintro e w4 ⟨rfl, hb4⟩
          rw [← HFA.out, HHQ.out, if_pos rfl, HFE.out]
          have HJ4 := hid (HJ3.out.below hb4)
          have HOV4 := hid (HOV3.out.below hb4)
          clear hb4 HJ3 HOV3
          obtain ⟨la, lc, hlv, hrow⟩ := HJ4.out.rf.len
          subst hlv
          obtain ⟨b, o, rfl, -, r1, -⟩ := row_fr hrow hi
          have HBI := owns_bytes (HJ4.out.rf.bs L[i] (List.getElem_mem hi))
          obtain ⟨ba, bc, hbv, -, -, -, -⟩ := id HBI
          rw [hbv] at r1 HBI
          rw [HSB.out] at r1 HBI
          have HBI' := hid HBI
          have x1 := HJ4.out.rf.obj.cell 1 (.slice (some ⟨b, o, none⟩) L.length lc) rfl
          clear hrow hbv HBI
          go_wp2_with fail
          refine (ref_same _ _ x.b x.b w4 HOV4.out HBI'.out).mono ?_
          rintro e w5 ⟨rfl, rfl⟩
          rw [beq_self_eq_true]
          clear r1 x1
          go_wp2_with fail
          refine (awake03 w4).mono ?_
          rintro e w6 ⟨rfl, hb6⟩
          have HB6 := hid (HJ4.out.below hb6).bel
          clear hb6 HJ4
          go_wp2_with fail
          go_ret
          exact ⟨rfl, HB6.out⟩
end Go.Proofs.Ytibhkkfbhbnmeaa
