/-
  wire.Writer: Texts, Out.
-/
import Derived.Test.YteiifligdfnifaaDoorWr8
namespace Go.Proofs.YteiifligdfnifaaDoor
open Go.RowKit
set_option maxRecDepth 100000
set_option linter.unusedVariables false

set_option maxHeartbeats 3200000 in
theorem buf_writeS0 (b : Nat) (g : Option Nat) (s : WSt) (t : ByteArray) (w : World) (h0 : t.size = 0) (h : WrAt w b g (s.1.map byt) s.2) :
    Calls Tryd.prog 60 #[.pointer (some ⟨b, 0, none⟩), .string t] w fun e w' => e = .returned (.tuple #[.int .i64 0, .nilIface]) ∧ WrTo w b g s w' := by
  have hce : ∀ d dLen dCap W, (Builtin.copy_ #[37, 9] 3 #[.slice d dLen dCap, .string t]).run Tryd.prog W = .ok (goInt 0) W := fun d dLen dCap W => Lib.run_copy_empty_string W 37 9 3 5 d dLen dCap t Tryd.underlying37 (by rw [info1]; rfl) h0
  have hne := h.ne
  have hfull := h.full
  obtain ⟨v, lr, ho, hw, hv⟩ := h.ex
  obtain ⟨bs, hbs⟩ : ∃ bs, bs = s.1.map byt := ⟨_, rfl⟩
  rw [← hbs] at hw hfull
  have HBS := hid hbs
  have HHW := hid hw
  have HHV := hid hv
  clear hbs h
  have hcl : ∃ ao cap, v = .slice ao bs.length cap ∧ bs.length ≤ cap ∧ cap ≤ maxLen ∧ (ao = none → cap = 0) := by
    obtain ⟨ao, cap, rfl, -, h1, h2⟩ := owns_row hw
    refine ⟨ao, cap, rfl, h1, h2, fun e => ?_⟩
    rcases hw.2 with ⟨e1, _⟩ | ⟨k, cap', cur, e1, _⟩
    · simp only [Value.slice.injEq] at e1; exact e1.2.2
    · rw [e] at e1; simp at e1
  obtain ⟨ao, cap, rfl, hlc, hcm, hz⟩ := hcl
  have c2 := ho.cell 2 _ rfl
  have f2 := ho.frozen 2
  go_enter Tryd.func60, Tryd.ntmps60
  go_wp2_with fail
  have HO := hid (ho.set 2 (.int .i8 0))
  have HK := hid (KeptS.set (S := fun q => q = b) w ⟨b, 2, none⟩ (.int .i8 0) rfl)
  clear c2 f2 ho
  generalize w.setCell ⟨b, 2, none⟩ (.int .i8 0) = W at HO HK ⊢
  refine (tryGrow_room b _ bs.length cap 0 W (HO.out.cell 0 _ rfl) (HO.out.frozen 0) hlc hcm (Nat.zero_le _)).mono ?_
  rintro e w' ⟨rfl, rfl⟩
  rw [Nat.add_zero]
  have HO2 := hid (HO.out.set 0 (.slice ao bs.length cap))
  have HK2 := hid (HK.out.next (KeptS.set (S := fun q => q = b) W ⟨b, 0, none⟩ (.slice ao bs.length cap) rfl))
  clear HO HK
  generalize W.setCell ⟨b, 0, none⟩ (.slice ao bs.length cap) = W2 at HO2 HK2 ⊢
  have HW2 : Hid (WrTo w b g s W2) :=
    ⟨g, by rw [← HBS.out]; exact ⟨⟨_, 0, HO2.out, own_keptS HHW.out HK2.out (fun k e e2 => hne (by rw [← HHV.out, e, e2])), HHV.out⟩, hne, hfull⟩, HK2.out.imp (fun k e => .inl e), fun k e => .inl e⟩
  have d0 := HO2.out.cell 0 _ rfl
  clear HO2 HK2 hw HHW HHV HBS
  unfold maxLen at hcm
  cases ao with
  | none =>
    obtain rfl := hz rfl
    have hb0 : bs.length = 0 := by omega
    go_wp2
    go_ret2
    exact ⟨rfl, HW2.out⟩
  | some ad =>
    by_cases hcl : cap = bs.length
    · go_wp2
      go_ret2
      exact ⟨rfl, HW2.out⟩
    · go_wp2
      go_ret2
      exact ⟨rfl, HW2.out⟩

/-- Texts as lists of bytes. -/
def tls (ss : List ByteArray) : List (List UInt8) := ss.map fun t => t.data.toList
theorem str_at {w : World} {a : Option Addr} {ss : List ByteArray} (h : RowAt w a (ss.map Value.string)) {k : Nat} (hk : k < ss.length) : ∃ b o, a = some ⟨b, o, none⟩ ∧ w.cell? ⟨b, o + k, none⟩ = some (.string ss[k]) := by
  obtain ⟨b, o, e, hc⟩ := h.at k (by simpa using hk)
  exact ⟨b, o, e, by simpa using hc⟩

set_option maxHeartbeats 3200000 in
theorem wr_texts (b : Nat) (g : Option Nat) (s : WSt) (a : Option Addr) (ss : List ByteArray) (cap : Nat) (w : World) (h : WrAt w b g (s.1.map byt) s.2) (hr : RowAt w a (ss.map Value.string)) (ho : ss ≠ [] → OffW w b g a)
    (hm : s.1.length + 9 * ss.length + (tls ss).flatten.length ≤ 140737488355328) :
    Calls Tryd.prog 49 #[.pointer (some ⟨b, 0, none⟩), .slice a ss.length cap] w fun e w' => e = .returned (.tuple #[]) ∧ WrTo w b g (blobsW s (tls ss)) w' := by
  have HR := hid hr
  have HO : Hid (ss ≠ [] → OffW w b g a) := ho
  have H0 := hid (WrTo.refl h)
  clear h hr ho
  go_enter Tryd.func49, Tryd.ntmps49
  go_wp2_with fail
  go_loopw [8] (fun i wr => ∃ k : Nat, i = .int .i64 k ∧ k ≤ ss.length ∧ Hid (WrTo w b g (blobsW s ((tls ss).take k)) wr)) (fun i _ => ss.length - (intOf i).toNat)
  case atStart => exact ⟨0, rfl, Nat.zero_le _, H0⟩
  case round =>
    clear H0
    obtain ⟨k, rfl, hk, HW⟩ := hrel
    by_cases hlt : k < ss.length
    · obtain ⟨x, o, rfl, hc⟩ := str_at ((HO.out (ne_of_lt hlt)).row HR.out HW.out.kept) hlt
      have hlt2 : k < (tls ss).length := by unfold tls; simpa using hlt
      have HT := hid (blobsW_take s (tls ss) k hlt2)
      have hl1 := blobsW_len ((tls ss).take k) s (fun l hl => by
        have := List.sublist_flatten_of_mem (List.mem_of_mem_take hl)
        have := this.length_le; omega)
      have hl2 := part_le (tls ss) k hlt2
      have htl : (tls ss).length = ss.length := by unfold tls; simp
      rw [List.length_take] at hl1
      have hl : (blobsW s ((tls ss).take k)).1.length + 9 + (tls ss)[k].length ≤ 140737488355328 := by omega
      have hxe : (tls ss)[k] = ss[k].data.toList := List.getElem_map _
      rw [hxe] at hl
      have HT' : Hid (blobsW s ((tls ss).take (k + 1)) = blobW (blobsW s ((tls ss).take k)) ss[k].data.toList) := by rw [← hxe]; exact HT.out
      clear hl1 hl2 HT hxe hlt2 htl
      generalize ss[k] = t at *
      generalize blobsW s ((tls ss).take k) = u at *
      have hsz : t.data.toList.length = t.size := size_eq t
      have HSZ := hid hsz
      rw [hsz] at hl
      clear hsz
      obtain ⟨g1, h1, h2, h3⟩ := HW.out
      go_wp2_with fail
      refine (buf_num b g1 u t.size wr h1 (by omega)).mono ?_
      rintro e w1 ⟨rfl, hp⟩
      rw [← HSZ.out, numW_len' u (by rw [HSZ.out]; omega)] at hp
      have HP := hid hp
      clear hp hc
      go_wp2_with fail
      obtain ⟨g2, p1, p2, p3⟩ := HP.out
      by_cases h0 : t.size = 0
      · have hnil : t.data.toList = [] := List.eq_nil_of_length_eq_zero (by rw [HSZ.out]; exact h0)
        refine (buf_writeS0 b g2 (u.1 ++ enc t.data.toList.length, u.2) t w1 h0 p1).mono ?_
        rintro e w2 ⟨rfl, hp⟩
        have HW1 := hid (WrTo.next h2 h3 (WrTo.next p2 p3 hp))
        have HN := hid hnil
        clear h1 h2 h3 p1 p2 p3 hp HW HP hnil h0
        go_wp2
        go_roundw
        case rel => exact ⟨k + 1, by go_num, by omega, by rw [HT'.out]; unfold blobW; rw [HN.out, List.append_nil]; rw [HN.out] at HW1; exact HW1⟩
        case measure => simp [intOf]; omega
      · refine (buf_writeS b g2 _ u.2 t w1 p1 (oneCell_bytes _) (by omega) (by
          have := enc_length9 (n := t.data.toList.length) (by rw [HSZ.out]; omega)
          simp only [List.length_map, List.length_append]; omega)).mono ?_
        intro e w2 hp
        obtain ⟨rfl, hpw⟩ : e = .returned (.tuple #[.int .i64 t.size, .nilIface]) ∧ WrTo w1 b g2 (blobW u t.data.toList) w2 := by
          refine WrTo.of_post ?_
          unfold blobW
          dsimp only
          rw [List.map_append (l₁ := u.1 ++ enc t.data.toList.length)]; exact hp
        have HW1 := hid (WrTo.next h2 h3 (WrTo.next p2 p3 hpw))
        clear h1 h2 h3 p1 p2 p3 hp hpw HW HP h0
        go_wp2
        go_roundw
        case rel => exact ⟨k + 1, by go_num, by omega, by rw [HT'.out]; exact HW1⟩
        case measure => simp [intOf]; omega
    · have hk2 : (tls ss).take k = tls ss := List.take_of_length_le (by unfold tls; simp; omega)
      rw [hk2] at HW
      go_wp2
      go_end0
      exact ⟨rfl, HW.out⟩

set_option maxHeartbeats 1600000 in
theorem buf_bytes (b : Nat) (g : Option Nat) (bs : List Value) (bad : Bool) (w : World) (h : WrAt w b g bs bad) :
    Calls Tryd.prog 62 #[.pointer (some ⟨b, 0, none⟩)] w fun e w' => ∃ v, e = .returned v ∧ w.ownsRow 0 5 1 v bs.length bs ∧ v.ownBlock = g ∧ ∃ n, w' = w.drewN n := by
  obtain ⟨v, lr, ho, hw, hv⟩ := h.ex
  have hcl : ∃ ao cap, v = .slice ao bs.length cap ∧ bs.length ≤ cap ∧ cap ≤ maxLen ∧ (ao = none → cap = 0) := by
    obtain ⟨ao, cap, rfl, -, h1, h2⟩ := owns_row hw
    refine ⟨ao, cap, rfl, h1, h2, fun e => ?_⟩
    rcases hw.2 with ⟨e1, _⟩ | ⟨k, cap', cur, e1, _⟩
    · simp only [Value.slice.injEq] at e1; exact e1.2.2
    · rw [e] at e1; simp at e1
  obtain ⟨ao, cap, rfl, hlc, hcm, hz⟩ := hcl
  have c0 := ho.cell 0 _ rfl
  have c1 := ho.cell 1 _ rfl
  have HW := hid hw
  have HV := hid hv
  clear ho hw hv h
  unfold maxLen at hcm
  cases ao with
  | none =>
    obtain rfl := hz rfl
    have hb0 : bs.length = 0 := by omega
    have HB := hid hb0
    rw [hb0] at c0
    clear hb0 hlc
    go_enter Tryd.func62, Tryd.ntmps62
    go_wp2
    go_region
    all_goals (go_wp2; go_ret; exact ⟨_, rfl, by have := HW.out; rw [HB.out] at this ⊢; exact this, HV.out, 1, rfl⟩)
  | some ad =>
    go_enter Tryd.func62, Tryd.ntmps62
    go_wp2
    go_region
    all_goals (go_wp2; go_ret; exact ⟨_, rfl, HW.out, HV.out, 1, rfl⟩)

/-- What Out tells. -/
def OutPost (w : World) (s : WSt) (e : Ending) (w' : World) : Prop := Below w.heap.size w w' ∧ ((s.2 = true ∧ e = .returned (.tuple #[.slice none 0 0, .int .i64 10])) ∨ (s.2 = false ∧ ∃ v, e = .returned (.tuple #[v, .int .i64 0]) ∧ w'.ownsRow w.heap.size 5 1 v s.1.length (s.1.map byt)))
set_option maxHeartbeats 1600000 in
theorem wr_out (b : Nat) (g : Option Nat) (s : WSt) (w : World) (h : WrAt w b g (s.1.map byt) s.2) (hm : s.1.length ≤ 140737488355328) :
    Calls Tryd.prog 51 #[.pointer (some ⟨b, 0, none⟩)] w (OutPost w s) := by
  obtain ⟨l, bad⟩ := s
  dsimp only at h hm
  have HH := hid h
  obtain ⟨v, lr, ho, hw, hv⟩ := h.ex
  have c3 := ho.cell 3 _ rfl
  clear ho hw hv h
  cases bad with
  | true =>
    go_enter Tryd.func51, Tryd.ntmps51
    go_wp2_with fail
    go_ret2
    exact ⟨Below.refl _ _, .inl ⟨rfl, rfl⟩⟩
  | false =>
    go_enter Tryd.func51, Tryd.ntmps51
    go_wp2_with fail
    refine (buf_bytes b g _ _ w HH.out).mono ?_
    rintro e w1 ⟨v1, rfl, ho1, -, n, rfl⟩
    rw [List.length_map] at ho1
    have HB1 := hid (owns_bytes (w := w.drewN n) ho1)
    clear ho1
    go_wp2_with fail
    refine (bytes_clone v1 l _ HB1.out hm).mono ?_
    rintro e w2 ⟨v2, rfl, ho2, hb2⟩
    have HO2 := hid ho2
    have HB2 := hid ((below_drewN' (B := w.heap.size) (w := w) n).trans hb2)
    clear ho2 hb2
    go_wp2_with fail
    go_ret2
    exact ⟨HB2.out, .inr ⟨rfl, v2, rfl, HO2.out⟩⟩
end Go.Proofs.YteiifligdfnifaaDoor
