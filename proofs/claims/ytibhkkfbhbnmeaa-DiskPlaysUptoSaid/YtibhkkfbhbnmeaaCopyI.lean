/-
  Slices of ints; althingref01.CopyInts.
-/
import Derived.Test.YtibhkkfbhbnmeaaRows
import Derived.Test.YtibhkkfbhbnmeaaBase
import Derived.WalkSpells
import Derived.Laws.CopyOwn
namespace Go.Proofs.Ytibhkkfbhbnmeaa
open Go.RowKit
set_option maxRecDepth 20000

/-- A slice of ints. -/
def IsInts (w : World) (v : Value) (l : List Int) : Prop := ∃ a c, v = .slice a l.length c ∧ RowAt w a (l.map (Value.int .i64)) ∧ (a = none → c = 0) ∧ l.length ≤ c ∧ c ≤ maxLen
theorem IsInts.below {w w' : World} {v : Value} {l : List Int} (h : IsInts w v l) (hb : Below w.heap.size w w') : IsInts w' v l := by
  obtain ⟨a, c, h1, h2, h3⟩ := h
  exact ⟨a, c, h1, h2.below hb, h3⟩
theorem owns_ints {w : World} {base : Nat} {e : TypeId} {v : Value} {l : List Int} (h : w.ownsRow base e 1 v l.length (l.map (Value.int .i64))) : IsInts w v l := by
  have h' := h
  obtain ⟨a, c, rfl, hr, h1, h2⟩ := owns_row h
  refine ⟨a, c, rfl, hr, ?_, h1, h2⟩
  intro ha
  subst ha
  rcases h'.2 with ⟨e, _⟩ | ⟨g, cap, cur, e, _⟩
  · simp only [Value.slice.injEq] at e; exact e.2.2
  · simp at e

theorem infoInt : (Try.prog.info? 3).map (fun i => (i.zero, i.size, i.bytes)) = some (some (.int .i64 0), 1, 8) := by kernel_rfl

theorem splice_all (cur cs : List Value) (h : cur.length = cs.length) : splice cur 0 cs = cs := by
  unfold splice
  simp [h]

set_option maxHeartbeats 800000 in
theorem copy_ints (a : Option Addr) (cap : Nat) (ns : List Int) (w : World) (hr : RowAt w a (ns.map (Value.int .i64))) (hm : ns.length * 8 ≤ 140737488355328) :
    Calls Try.prog 24 #[.slice a ns.length cap] w fun e w' => ∃ v, e = .returned v ∧ w'.ownsRow w.heap.size 3 1 v ns.length (ns.map (Value.int .i64)) ∧ Below w.heap.size w w' := by
  obtain ⟨i, hi, hz, hsz, hby⟩ := info_parts infoInt
  have HR := hid hr
  clear hr
  go_enter Try.func24, Try.ntmps24
  go_wp2_with (at_make; refine wpList_make_full _ rfl _ _ 46 rfl w.heap.size 3 i (.int .i64 0) 1 Try.underlying46 hi hz hsz _ _ _ _ ns.length rfl rfl rfl rfl (by rw [hby]; omega) (by unfold maxLen; omega) (Nat.le_refl _) ?_; intro w1 ho hg; refine Stop.mk ?_)
  have HO := hid ho
  have HB := hid ((Below.refl w.heap.size w).grown hg (Nat.le_refl _) (fun k hk => by cases hk))
  have HR1 := hid (HR.out.below HB.out)
  clear ho hg
  rcases HO.out.2 with ⟨e, _⟩ | ⟨g, cap', cur, e, hgb, hgg, hn, hm', hcs, _⟩
  · simp at e
  simp only [Value.slice.injEq, Option.some.injEq, Addr.mk.injEq, and_true, true_and] at e
  obtain ⟨rfl, rfl⟩ := e
  have HG : Hid (w1.heap[w.heap.size]? = some (.cells cur.toList.toArray 3 (0, 0))) := by show _ = _; simpa using hgg
  have HC : Hid (cur.toList.length = ns.length) := by show _ = _; simpa using hcs
  clear hgg hcs hgb hn hm'
  refine Stop.go ?_
  go_wp2_with (with_reducible refine wpList_copy_splice rfl (.tmp 7) (.tmp 8) 46 46 rfl 3 Try.underlying46 ?c1 _ _ _ _ _ _ rfl rfl w.heap.size 0 cur.toList 3 HG.out (ns.map (Value.int .i64)) ?c2 ?c3 ?c4 (oneCell_ints _ _) w.heap.size w HB.out (Nat.le_refl _) ?c5)
  case c1 => rw [hi]; simp [hsz]
  case c2 => rw [List.length_map]; exact (Nat.min_self _).symm
  case c3 =>
    intro hpos
    obtain ⟨b, o, rfl, _⟩ := HR1.out.at 0 (by simpa using hpos)
    exact ⟨_, rfl, fun j x hx => HR1.out.add j (.int .i64 x) (by simp [hx])⟩
  case c4 => rw [List.length_map, HC.out]; omega
  case c5 =>
    intro w2 hg2 hb2
    rw [splice_all _ _ (by rw [HC.out, List.length_map])] at hg2
    have HG2 := hg2
    have HB2 := hid hb2
    clear hg2 hb2 HO HB HR1 HG HC
    go_wp2
    go_ret
    refine ⟨_, rfl, ⟨by simp, .inr ⟨w.heap.size, ns.length, (ns.map (Value.int .i64)).toArray, rfl, Nat.le_refl _, HG2.out, Nat.le_refl _, by unfold maxLen; omega, by simp, by simpa using List.take_of_length_le (by simp)⟩⟩, HB2.out⟩
end Go.Proofs.Ytibhkkfbhbnmeaa
