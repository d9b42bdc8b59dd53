/-
  Interf: the document's Homes.
-/
import Derived.Test.YtongefjadoidbaaInt13
namespace Go.Proofs.Ytongefjadoidbaa
open Go.RowKit
set_option maxRecDepth 20000
set_option linter.unusedVariables false

theorem infoStr : (Try.prog.info? 9).map (fun i => (i.zero, i.size, i.bytes)) = some (some (.string ByteArray.empty), 1, 16) := by kernel_rfl

/-- A row of texts of our own. -/
def OwnT (w : World) (base : Nat) (v : Value) (l : List (List UInt8)) : Prop := w.ownsRow base 9 1 v (l.map tkey).length (l.map tkey)
theorem OwnT.row {w : World} {base : Nat} {v : Value} {l : List (List UInt8)} (h : OwnT w base v l) : IsTexts w v l := by
  obtain ⟨a, c, hv, hr, -⟩ := owns_row h
  exact ⟨a, c, by rw [hv, List.length_map], hr⟩

theorem OwnT.snoc {w : World} {base : Nat} {v : Value} {l : List (List UInt8)} {u : List UInt8} (h : w.ownsRow base 9 1 v (l.map tkey ++ [tkey u]).length (l.map tkey ++ [tkey u])) : OwnT w base v (l ++ [u]) := by
  unfold OwnT; rw [List.map_append]; exact h

set_option maxHeartbeats 4000000 in
theorem ref_homes (dp : Nat) (v : Value) (n : Nat) (L : List It) (w : World) (hx : DAt w dp v n L) (hm : L.length * 72 ≤ 140737488355328) :
    Calls Try.prog 18 #[.pointer (some ⟨dp, 0, none⟩)] w fun e w' => ∃ v, e = .returned v ∧ IsTexts w' v (homesD L) ∧ Below w.heap.size w w' := by
  have HX := hid hx
  have hx0 := hx.own
  obtain ⟨av, cv, rfl, hrv, -⟩ := owns_row hx0
  have HRV := hid hrv
  clear hx hx0 hrv
  go_enter Try.func18, Try.ntmps18
  go_wp2_with fail
  generalize hb2 : w.heap.size = b2 at *
  have HB2 := hid hb2
  clear hb2
  go_loopw [3, 4] (fun ov s wr => ∃ j : Nat, s = .int .i64 j ∧ j ≤ L.length ∧ Hid (OwnT wr b2 ov (homesD (L.take j))) ∧ Hid (Below b2 w wr)) (fun _ s _ => L.length - (intOf s).toNat)
  case atStart => exact ⟨0, rfl, Nat.zero_le _, World.ownsRow_nil _ _ _ _, Below.refl _ _⟩
  case round =>
    obtain ⟨j, rfl, hj, HO, HB⟩ := hrel
    have hbl : Below w.heap.size w wr := by rw [HB2.out]; exact HB.out
    have hbw : b2 ≤ wr.heap.size := by have := HB.out.size; have := HB2.out; omega
    have HXw := hid (HX.out.below hbl)
    have HRw := hid (HRV.out.below hbl)
    have x1 := HXw.out.obj.cell 1 (.slice av L.length cv) rfl
    clear hbl
    by_cases hlt : j < L.length
    · obtain ⟨b, o, rfl, r0, r1, r2, r3, r4, r5⟩ := row_it HRw.out hlt
      have HTK := hid (homesD_succ L hlt)
      have hol := Nat.le_trans (homesD_len (L.take j)) (List.length_take_le j L)
      generalize homesD (L.take j) = out at *
      generalize L[j] = it at *
      obtain ⟨ki, ho, da, re, nu, se⟩ := it
      dsimp only at r0 r1 r2 r3 r4 r5
      clear r2 r3 r4 r5
      by_cases hk : ki = 1
      rotate_left
      · have hkb : (ki == 1) = false := beq_eq_false_iff_ne.2 hk
        have HTQ : Hid (homesD (L.take (j + 1)) = out) := by show _ = _; rw [HTK.out]; unfold homeStep; rw [if_neg hk]
        clear hk
        go_wp2_with fail
        go_roundw
        case rel => exact ⟨j + 1, by go_num, by omega, by rw [HTQ.out]; exact HO, HB⟩
        case measure => simp [intOf]; omega
      · subst hk
        have HTQ : Hid (homesD (L.take (j + 1)) = insB ho out) := by show _ = _; rw [HTK.out]; unfold homeStep; rw [if_pos rfl]
        clear HTK
        have HOR := hid HO.out.row
        obtain ⟨ao, co, rfl, hro⟩ := HOR.out
        have HRO := hid hro
        clear HOR hro
        go_wp2_with fail
        generalize wr = wp at *
        generalize hb3 : wp.heap.size = b3 at *
        have HB3 := hid hb3
        clear hb3 r0 r1 x1 HXw HRw
        go_loopw [6, 7, 8] (fun nv pv s wx => ∃ k : Nat, s = .int .i64 k ∧ k ≤ out.length ∧ pv = .bool ((out.take k).foldl (insStep ho) ([], false)).2 ∧ Hid (OwnT wx b3 nv ((out.take k).foldl (insStep ho) ([], false)).1) ∧ Hid (Below b3 wp wx)) (fun _ _ s _ => out.length - (intOf s).toNat)
        case atStart => exact ⟨0, rfl, Nat.zero_le _, rfl, World.ownsRow_nil _ _ _ _, Below.refl _ _⟩
        case round =>
          obtain ⟨k, rfl, hk, rfl, HN, HC⟩ := hrel
          have hcw : b3 ≤ wr.heap.size := by have := HC.out.size; have := HB3.out; omega
          have hblx : Below wp.heap.size wp wr := by rw [HB3.out]; exact HC.out
          have HROx := hid (HRO.out.below hblx)
          have HBx := hid (HB.out.trans (hblx.mono (by have := HB3.out; omega)))
          clear hblx
          by_cases hlk : k < out.length
          · obtain ⟨bo, oo, rfl, hcell⟩ := HROx.out.at k (by simpa using hlk)
            simp only [List.getElem_map] at hcell
            unfold tkey at hcell
            have HST : Hid ((out.take (k + 1)).foldl (insStep ho) ([], false) = insStep ho ((out.take k).foldl (insStep ho) ([], false)) out[k]) := by
              show _ = _; rw [List.take_succ_eq_append_getElem hlk, List.foldl_append]; rfl
            have hln := ins_len ho (out.take k) ([], false)
            generalize (out.take k).foldl (insStep ho) ([], false) = st at *
            obtain ⟨acc, pt⟩ := st
            simp only [List.length_nil, Bool.false_eq_true, if_false, List.length_take] at hln
            have hal : acc.length ≤ k + 1 := by omega
            clear hln
            dsimp only at HN HST ⊢
            generalize hok : out[k] = ok at *
            have HOK := hid hok
            clear hok
            cases hxy : (ok == ho) with
            | true =>
              have HS2 : Hid (insStep ho (acc, pt) ok = (acc ++ [ok], true)) := by show _ = _; unfold insStep; rw [if_pos hxy]
              rw [HS2.out] at HST
              go_wp2_with (at_builtin; refine wpList_app_one rfl (.tmp 63) (.tmp 68) 53 rfl b3 9 Try.underlying53 infoStr rfl _ (acc.map tkey) (tkey ok) rfl HN.out rfl rfl (by rw [List.length_map]; first | omega | (simp; omega)) (by rw [List.length_map]; unfold maxLen; first | omega | (simp; omega)) (by omega) ?_; intro v1 w1 ho1 hb1; refine Stop.mk ?_)
              have HN2 := hid (OwnT.snoc ho1)
              have HC2 := hid (HC.out.trans hb1)
              clear ho1 hb1
              refine Stop.go ?_
              go_wp2_with fail
              go_roundw
              case rel => exact ⟨k + 1, by go_num, by omega, by rw [HST.out], by rw [HST.out]; exact HN2, HC2⟩
              case measure => simp [intOf]; omega
            | false =>
              cases pt with
              | true =>
                have HS2 : Hid (insStep ho (acc, true) ok = (acc ++ [ok], true)) := by show _ = _; unfold insStep; rw [if_neg (by rw [hxy]; decide), if_pos rfl]
                rw [HS2.out] at HST
                go_wp2_with (at_builtin; refine wpList_app_one rfl (.tmp 63) (.tmp 68) 53 rfl b3 9 Try.underlying53 infoStr rfl _ (acc.map tkey) (tkey ok) rfl HN.out rfl rfl (by rw [List.length_map]; first | omega | (simp; omega)) (by rw [List.length_map]; unfold maxLen; first | omega | (simp; omega)) (by omega) ?_; intro v1 w1 ho1 hb1; refine Stop.mk ?_)
                have HN2 := hid (OwnT.snoc ho1)
                have HC2 := hid (HC.out.trans hb1)
                clear ho1 hb1
                refine Stop.go ?_
                go_wp2_with fail
                go_roundw
                case rel => exact ⟨k + 1, by go_num, by omega, by rw [HST.out], by rw [HST.out]; exact HN2, HC2⟩
                case measure => simp [intOf]; omega
              | false =>
                cases hls : Op.bytesLess ho ok with
                | true =>
                  have HS2 : Hid (insStep ho (acc, false) ok = (acc ++ [ho] ++ [ok], true)) := by show _ = _; unfold insStep; rw [if_neg (by rw [hxy]; decide), if_neg Bool.false_ne_true, if_pos hls]
                  rw [HS2.out] at HST
                  go_wp2_with (at_builtin; refine wpList_app_one rfl (.tmp 59) (.tmp 61) 53 rfl b3 9 Try.underlying53 infoStr rfl _ (acc.map tkey) (tkey ho) rfl HN.out rfl rfl (by rw [List.length_map]; first | omega | (simp; omega)) (by rw [List.length_map]; unfold maxLen; first | omega | (simp; omega)) (by omega) ?_; intro v0 w0 ho0 hb0; refine Stop.mk ?_)
                  have HN1 := hid (OwnT.snoc ho0)
                  have HC1 := hid (HC.out.trans hb0)
                  have HRO1 := hid (HRO.out.below (w' := w0) (by rw [HB3.out]; exact HC1.out))
                  have hs0 : b3 ≤ w0.heap.size := Nat.le_trans hcw hb0.size
                  clear ho0 hb0 hcell
                  obtain ⟨bo1, oo1, e1, hcell⟩ := HRO1.out.at k (by simpa using hlk)
                  simp only [List.getElem_map] at hcell
                  rw [HOK.out] at hcell
                  unfold tkey at hcell
                  simp only [Option.some.injEq, Addr.mk.injEq, and_true] at e1
                  obtain ⟨rfl, rfl⟩ := e1
                  refine Stop.go ?_
                  go_wp2_with (at_builtin; refine wpList_app_one rfl (.tmp 63) (.tmp 68) 53 rfl b3 9 Try.underlying53 infoStr rfl _ ((acc ++ [ho]).map tkey) (tkey ok) rfl HN1.out rfl rfl (by rw [List.length_map]; first | omega | (simp; omega)) (by rw [List.length_map]; unfold maxLen; first | omega | (simp; omega)) (by omega) ?_; intro v1 w1 ho1 hb1; refine Stop.mk ?_)
                  have HN2 := hid (OwnT.snoc ho1)
                  have HC2 := hid (HC1.out.trans hb1)
                  clear ho1 hb1
                  refine Stop.go ?_
                  go_wp2_with fail
                  go_roundw
                  case rel => exact ⟨k + 1, by go_num, by omega, by rw [HST.out], by rw [HST.out]; exact HN2, HC2⟩
                  case measure => simp [intOf]; omega
                | false =>
                  have HS2 : Hid (insStep ho (acc, false) ok = (acc ++ [ok], false)) := by show _ = _; unfold insStep; rw [if_neg (by rw [hxy]; decide), if_neg Bool.false_ne_true, if_neg (by rw [hls]; decide)]
                  rw [HS2.out] at HST
                  go_wp2_with (at_builtin; refine wpList_app_one rfl (.tmp 63) (.tmp 68) 53 rfl b3 9 Try.underlying53 infoStr rfl _ (acc.map tkey) (tkey ok) rfl HN.out rfl rfl (by rw [List.length_map]; first | omega | (simp; omega)) (by rw [List.length_map]; unfold maxLen; first | omega | (simp; omega)) (by omega) ?_; intro v1 w1 ho1 hb1; refine Stop.mk ?_)
                  have HN2 := hid (OwnT.snoc ho1)
                  have HC2 := hid (HC.out.trans hb1)
                  clear ho1 hb1
                  refine Stop.go ?_
                  go_wp2_with fail
                  go_roundw
                  case rel => exact ⟨k + 1, by go_num, by omega, by rw [HST.out], by rw [HST.out]; exact HN2, HC2⟩
                  case measure => simp [intOf]; omega
          · have hke : k = out.length := by omega
            have htk : out.take k = out := by rw [hke, List.take_length]
            rw [htk] at HN ⊢
            have HFN : Hid (homesD (L.take (j + 1)) = insFin ho (out.foldl (insStep ho) ([], false))) := HTQ.out
            have hln := ins_len ho out ([], false)
            clear htk hke
            generalize out.foldl (insStep ho) ([], false) = st at *
            obtain ⟨acc, pt⟩ := st
            simp only [List.length_nil, Bool.false_eq_true, if_false] at hln
            have hal : acc.length ≤ out.length + 1 := by omega
            clear hln
            dsimp only at HN HFN ⊢
            have HBE : Hid (Below b2 w wr) := HB.out.trans (HC.out.mono (by omega))
            cases pt with
            | true =>
              have HF2 : Hid (insFin ho (acc, true) = acc) := by show _ = _; unfold insFin; rw [if_pos rfl]
              rw [HF2.out] at HFN
              go_wp2_with fail
              go_roundw
              case rel => exact ⟨j + 1, by go_num, by omega, by rw [HFN.out]; exact owns_base HN.out hbw, HBE⟩
              case measure => simp [intOf]; omega
            | false =>
              have HF2 : Hid (insFin ho (acc, false) = acc ++ [ho]) := by show _ = _; unfold insFin; rw [if_neg Bool.false_ne_true]
              rw [HF2.out] at HFN
              go_wp2_with (at_builtin; refine wpList_app_one rfl (.tmp 72) (.tmp 74) 53 rfl b3 9 Try.underlying53 infoStr rfl _ ((acc).map tkey) (tkey ho) rfl HN.out rfl rfl (by rw [List.length_map]; first | omega | (simp; omega)) (by rw [List.length_map]; unfold maxLen; first | omega | (simp; omega)) (by omega) ?_; intro v1 w1 ho1 hb1; refine Stop.mk ?_)
              have HN2 := hid (OwnT.snoc ho1)
              have HBE2 := hid (HBE.out.trans (hb1.mono (by omega)))
              clear ho1 hb1
              refine Stop.go ?_
              go_wp2_with fail
              go_roundw
              case rel => exact ⟨j + 1, by go_num, by omega, by rw [HFN.out]; exact owns_base HN2.out hbw, HBE2⟩
              case measure => simp [intOf]; omega
    · obtain rfl : j = L.length := by omega
      rw [List.take_length] at HO
      go_wp2_with fail
      go_ret
      exact ⟨_, rfl, HO.out.row, by rw [HB2.out]; exact HB.out⟩
end Go.Proofs.Ytongefjadoidbaa
