/-
  althingref01.CopyInts and althingref01.Numbers.
-/
import Derived.Test.YtimickmlmlihpaaNumbers
import Derived.Laws.CopyOwn
namespace Go.Proofs.Ytimickmlmlihpaa
open Go.RowKit
set_option maxRecDepth 20000

theorem infoInt : (Try.prog.info? 3).map (fun i => (i.zero, i.size, i.bytes)) = some (some (.int .i64 0), 1, 8) := by kernel_rfl

theorem splice_all (cur cs : List Value) (h : cur.length = cs.length) : splice cur 0 cs = cs := by
  unfold splice
  simp [h]

set_option maxHeartbeats 800000 in
theorem copy_ints (a : Option Addr) (cap : Nat) (ns : List Int) (w : World) (hr : RowAt w a (ns.map (Value.int .i64))) (hm : ns.length * 8 ≤ 140737488355328) :
    Calls Try.prog 14 #[.slice a ns.length cap] w fun e w' => ∃ v, e = .returned v ∧ w'.ownsRow w.heap.size 3 1 v ns.length (ns.map (Value.int .i64)) ∧ Below w.heap.size w w' := by
  obtain ⟨i, hi, hz, hsz, hby⟩ := info_parts infoInt
  have HR := hid hr
  clear hr
  go_enter Try.func14, Try.ntmps14
  go_wp2_with (at_make; refine wpList_make_full _ rfl _ _ 27 rfl w.heap.size 3 i (.int .i64 0) 1 Try.underlying27 hi hz hsz _ _ _ _ ns.length rfl rfl rfl rfl (by rw [hby]; omega) (by unfold maxLen; omega) (Nat.le_refl _) ?_; intro w1 ho hg; refine Stop.mk ?_)
  have HO := hid ho
  have HB := hid ((Below.refl w.heap.size w).grown hg (Nat.le_refl _) (fun k hk => by cases hk))
  have HR1 := hid (HR.out.below HB.out)
  clear ho hg
  rcases HO.out.2 with ⟨e, _⟩ | ⟨g, cap', cur, e, hgb, hgg, hn, hm', hcs, _⟩
  · simp at e
  simp only [Value.slice.injEq, Option.some.injEq, Addr.mk.injEq, and_true, true_and] at e
  obtain ⟨rfl, rfl⟩ := e
  have HG : Hid (w1.heap[w.heap.size]? = some (.cells cur.toList.toArray 3 (0, 0))) := by show _ = _; simpa using hgg
  have HC : Hid (cur.toList.length = ns.length) := by show _ = _; simpa using hcs
  clear hgg hcs hgb hn hm'
  refine Stop.go ?_
  go_wp2_with (with_reducible refine wpList_copy_splice rfl (.tmp 7) (.tmp 8) 27 27 rfl 3 Try.underlying27 ?c1 _ _ _ _ _ _ rfl rfl w.heap.size 0 cur.toList 3 HG.out (ns.map (Value.int .i64)) ?c2 ?c3 ?c4 (oneCell_ints _ _) w.heap.size w HB.out (Nat.le_refl _) ?c5)
  case c1 => rw [hi]; simp [hsz]
  case c2 => rw [List.length_map]; exact (Nat.min_self _).symm
  case c3 =>
    intro hpos
    obtain ⟨b, o, rfl, _⟩ := HR1.out.at 0 (by simpa using hpos)
    exact ⟨_, rfl, fun j x hx => HR1.out.add j (.int .i64 x) (by simp [hx])⟩
  case c4 => rw [List.length_map, HC.out]; omega
  case c5 =>
    intro w2 hg2 hb2
    rw [splice_all _ _ (by rw [HC.out, List.length_map])] at hg2
    have HG2 := hg2
    have HB2 := hid hb2
    clear hg2 hb2 HO HB HR1 HG HC
    go_wp2
    go_ret
    refine ⟨_, rfl, ⟨by simp, .inr ⟨w.heap.size, ns.length, (ns.map (Value.int .i64)).toArray, rfl, Nat.le_refl _, HG2.out, Nat.le_refl _, by unfold maxLen; omega, by simp, by simpa using List.take_of_length_le (by simp)⟩⟩, HB2.out⟩

set_option maxHeartbeats 800000 in
theorem ref_numbers (a : Option Addr) (cap : Nat) (ns : List Int) (w : World) (hr : RowAt w a (ns.map (Value.int .i64))) (hm : 9 * ns.length ≤ 140737488355328) :
    Calls Try.prog 15 #[.slice a ns.length cap] w fun e w' => ∃ v, e = .returned (.tuple #[v, .int .i64 (numbersErr ns)]) ∧ w'.ownsRow w.heap.size 5 1 v (numbersBytes ns).length ((numbersBytes ns).map byt) ∧ Below w.heap.size w w' := by
  go_enter Try.func15, Try.ntmps15
  go_wp2_with fail
  go_loopw [4, 5] (fun v i wr => ∃ k : Nat, i = .int .i64 k ∧ k ≤ ns.length ∧ Hid ((ns.take k).all isNum = true) ∧ wr.ownsRow w.heap.size 5 1 v (encAll (ns.take k)).length ((encAll (ns.take k)).map byt) ∧ Below w.heap.size w wr) (fun _ i _ => ns.length - (intOf i).toNat)
  case atStart => exact ⟨0, rfl, Nat.zero_le _, rfl, World.ownsRow_made w #[] 0 (Nat.le_refl _) (Nat.zero_le _) rfl, (Below.refl _ _).alloc (Nat.le_refl _) _⟩
  case round =>
    obtain ⟨k, rfl, hk, hall, hown, hb⟩ := hrel
    have HO := hid hown
    have HB := hid hb
    have hbs := hb.size
    by_cases hlt : k < ns.length
    · obtain ⟨b, o, rfl, hcell⟩ := hr.at k (by simpa using hlt)
      simp only [List.getElem_map] at hcell
      have hcw := (hb.cell (p := ⟨b, o + k, none⟩) (lt_of_cell hcell)).trans hcell
      have hts := hid (all_take_succ ns k hlt)
      have het := hid (encAll_take ns k hlt)
      have hfl : Hid (isNum ns[k] = false → ns.all isNum = false) := fun h => all_false hlt h
      have hlen := encAll_length _ hall.out
      have htk : (ns.take k).length = k := List.length_take_of_le hk
      rw [htk] at hlen
      clear htk
      clear hown hb hcell hr
      generalize ns[k] = n at hcw hts het hfl
      by_cases hn : isNum n = true
      rotate_left
      · have HN := hid (show isNum n = false by simpa using hn)
        have HF := hid (hfl.out HN.out)
        clear hn hfl
        go_wp2_with (go_at_call 24; refine (ref_bad _ _).mono ?_; rintro e w' ⟨rfl, rfl⟩; rw [HN.out])
        go_ret2
        exact ⟨_, by unfold numbersErr; rw [HF.out]; rfl, by unfold numbersBytes; rw [HF.out]; exact World.ownsRow_nil _ _ _ _, HB.out⟩
      · have HN := hid hn
        obtain ⟨m, rfl⟩ : ∃ m : Nat, n = m := ⟨n.toNat, by have := (isNum_iff n).1 hn; omega⟩
        have hmm : m < 2 ^ 62 := by have := (isNum_iff _).1 hn; omega
        have hml := enc_length9 (n := m) (by omega)
        have HM := hid hmm
        simp only [Int.toNat_natCast] at het
        clear hn hmm
        go_wp2_with (first
          | (go_at_call 24; refine (ref_bad _ _).mono ?_; rintro e w' ⟨rfl, rfl⟩; rw [HN.out])
          | (go_at_call 27; refine (ref_put m _ (by have := HM.out; omega)).mono ?_; rintro e w1 ⟨v1, rfl, ho1, hb1⟩; refine Stop.mk ?_))
        have HO1 := hid (owns_below HO.out hb1)
        have HI1 := hid (owns_bytes ho1)
        have HB1 := hid (below_step HB.out hbs hb1)
        have HS1 := hid HB1.out.size
        clear ho1 hb1 HO HB hbs hcw
        refine Stop.go ?_
        go_wp2_with (at_builtin; refine wpList_app_bytes rfl (.tmp 18) (.tmp 23) 22 rfl w.heap.size 5 Try.underlying22 info5 _ _ (encAll (ns.take k)) (enc m) rfl HO1.out rfl HI1.out (by omega) HS1.out ?_; intro v2 w2 ho2 hb2; refine Stop.mk ?_)
        have HO2 := hid ho2
        have HB2 := hid (HB1.out.trans hb2)
        clear ho2 hb2 HO1 HB1 HI1 HS1
        refine Stop.go ?_
        go_wp2
        go_roundw
        case rel => exact ⟨k + 1, by go_num, by omega, by rw [hts.out, hall.out, HN.out]; rfl, by rw [het.out]; exact HO2.out, HB2.out⟩
        case measure => simp [intOf]; omega
    · obtain rfl : k = ns.length := by omega
      rw [List.take_length] at HO hall
      clear hown hb hr
      go_wp2
      go_ret2
      exact ⟨_, by unfold numbersErr; rw [hall.out]; rfl, by unfold numbersBytes; rw [hall.out]; exact HO.out, HB.out⟩
end Go.Proofs.Ytimickmlmlihpaa
