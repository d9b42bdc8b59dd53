/-
  The document's index: Add.
-/
import Derived.Test.YtongefjadoidbaaInt7
import Derived.Deep.RegionLaw
import Derived.Deep.AppendLies
namespace Go.Proofs.Ytongefjadoidbaa
open Go.RowKit
set_option maxRecDepth 20000
set_option linter.unusedVariables false

theorem KeptS.of_grown {w w' : World} {row : Option Nat} (h : w.grownBy w' row) : KeptS (fun k => some k = row) w w' := ⟨h.os, h.tape, h.output, h.size, fun k hk hn => h.block k hk hn⟩
/-- 'append(v, x)', x one new element of several cells, as a step of a region that draws. -/
theorem step_app_rec {P : Program} {w : World} {ops : Array Oper} {o : Oper} {a : Act} {K : Act → World → Prop} {Q : Exit → Act → World → Prop} {E : Prop} (hgd : o.guard = Option.none) (s x : Operand) (t : TypeId)
    (ho : o.op = .call { callee := .builtin .append, args := #[s, x], argTypes := #[t, t] })
    (base : Nat) (e : TypeId) {z : Value} {size bytes : Nat} (ht : P.underlying t = some (.slice e)) (hinfo : (P.info? e).map (fun i => (i.zero, i.size, i.bytes)) = some (some z, size, bytes)) (hzs : z.cells.size = size) (hsz : 0 < size)
    (v : Value) (n : Nat) (xs news : List Value) (ad : Addr) (c : Nat) (hs : a.eval s = v) (hown : w.ownsRow base e size v n xs)
    (hx : a.eval x = .slice (some ad) 1 c) (hl : news.length = size) (hr : RowAt w (some ad) news) (h1 : ∀ u ∈ news, u.oneCell' = true) (h63 : n + 1 ≤ maxLen) (hlen : (n + 1) * bytes ≤ 140737488355328) (hbase : base ≤ w.heap.size)
    (h : ∀ g cap w1, w1.ownsRow base e size (.slice (some ⟨g, 0, none⟩) (n + 1) cap) (n + 1) (xs ++ news) → w.grownBy w1 v.ownBlock → (v.ownBlock = some g ∨ g = w.heap.size) → K (a.put o.dst (.slice (some ⟨g, 0, none⟩) (n + 1) cap)) w1) :
    if Region.wanted o (yielded ops a.tmps) = true then Oper.wp P o a w K Q else E := by
  obtain ⟨i, hi, hz, hsize, hby⟩ := info_parts hinfo
  exact step_append_lies w hgd s x t ho base e i z size bytes ht hi hz hsize hby hzs hsz v n xs hs hown ad 1 c news hx (by omega) hr.add h1 (by omega) h63 hlen hbase _ rfl (fun g cap w' h2 h3 h4 _ => h g cap w' h2 h3 h4)
theorem owns_keptS {S : Nat → Prop} {w w' : World} {base : Nat} {e : TypeId} {size : Nat} {v : Value} {n : Nat} {xs : List Value} (h : w.ownsRow base e size v n xs) (hk : KeptS S w w') (hn : ∀ g, v.ownBlock = some g → ¬ S g) : w'.ownsRow base e size v n xs := by
  obtain ⟨h1, h2⟩ := h
  refine ⟨h1, ?_⟩
  rcases h2 with hh | ⟨g, cap, cur, rfl, hbb, hg, r⟩
  · exact .inl hh
  · exact .inr ⟨g, cap, cur, rfl, hbb, by rw [hk.block g (Array.getElem?_eq_some_iff.1 hg).1 (hn g rfl)]; exact hg, r⟩
theorem owns_new {w' : World} {base : Nat} {e : TypeId} {size : Nat} {v : Value} {n : Nat} {xs : List Value} (h : w'.ownsRow base e size v n xs) : ∀ g, v.ownBlock = some g → g < w'.heap.size := by
  intro g hg
  rcases h.2 with ⟨rfl, _⟩ | ⟨g', cap, cur, rfl, hbb, hh, r⟩
  · cases hg
  · simp only [Value.ownBlock, Option.some.injEq] at hg
    subst hg
    exact (Array.getElem?_eq_some_iff.1 hh).1

/-- The document's index: its block, its list. -/
structure DAt (w : World) (dp : Nat) (v : Value) (n : Nat) (L : List It) : Prop where
  obj : ObjAt w dp 57 #[.int .i64 n, v]
  own : w.ownsRow 0 39 6 v L.length (L.flatMap itCells)
  ne : v.ownBlock ≠ some dp
def DHas (dp : Nat) (v : Value) (k : Nat) : Prop := k = dp ∨ v.ownBlock = some k
theorem DAt.below {w w' : World} {dp : Nat} {v : Value} {n : Nat} {L : List It} (h : DAt w dp v n L) (hb : Below w.heap.size w w') : DAt w' dp v n L := ⟨h.obj.below hb, owns_below h.own hb, h.ne⟩
theorem DAt.keptS {S : Nat → Prop} {w w' : World} {dp : Nat} {v : Value} {n : Nat} {L : List It} (h : DAt w dp v n L) (hk : KeptS S w w') (hn : ∀ k, DHas dp v k → ¬ S k) : DAt w' dp v n L :=
  ⟨h.obj.keptS hk (hn _ (.inl rfl)), owns_keptS h.own hk (fun g hg => hn g (.inr hg)), h.ne⟩
theorem DAt.lt {w : World} {dp : Nat} {v : Value} {n : Nat} {L : List It} (h : DAt w dp v n L) {k : Nat} (hk : DHas dp v k) : k < w.heap.size := by
  rcases hk with rfl | hk
  · exact h.obj.lt
  · exact owns_new h.own k hk
def DAddPost (w : World) (dp : Nat) (v : Value) (n : Nat) (L : List It) (it : It) (e : Ending) (w' : World) : Prop :=
  e = .returned (.int .i64 (addErr n it)) ∧ (∃ v', DAt w' dp v' n (addS n L it) ∧ ∀ k, DHas dp v' k → DHas dp v k ∨ w.heap.size ≤ k) ∧ KeptS (DHas dp v) w w'
theorem info_of {P : Program} {e : TypeId} {size bytes : Nat} (h1 : (P.info? e).map (fun i => (i.size, i.bytes)) = some (size, bytes)) (h2 : (P.info? e).map (fun i => i.zero.map fun z => z.cells.size) = some (some size)) :
    ∃ z, (P.info? e).map (fun i => (i.zero, i.size, i.bytes)) = some (some z, size, bytes) ∧ z.cells.size = size := by
  cases hi : P.info? e with
  | none => rw [hi] at h1; cases h1
  | some i =>
    rw [hi] at h1 h2
    simp only [Option.map_some, Option.some.injEq, Prod.mk.injEq] at h1 h2
    cases hz : i.zero with
    | none => rw [hz] at h2; cases h2
    | some z =>
      rw [hz] at h2
      simp only [Option.map_some, Option.some.injEq] at h2
      exact ⟨z, by simp [hz, h1.1, h1.2], h2⟩
theorem infoItem : ∃ z, (Try.prog.info? 39).map (fun i => (i.zero, i.size, i.bytes)) = some (some z, 6, 72) ∧ z.cells.size = 6 := info_of (by kernel_rfl) (by kernel_rfl)

set_option maxHeartbeats 4000000 in
theorem ref_add (dp : Nat) (v : Value) (n : Nat) (L : List It) (it : It) (w : World) (h : DAt w dp v n L) (hd : it.data.oneCell' = true) (hlen : (L.length + 1) * 72 ≤ 140737488355328) :
    Calls Try.prog 19 #[.pointer (some ⟨dp, 0, none⟩), .agg #[.int .i64 it.kind, .string ⟨it.home.toArray⟩, it.data], .agg #[.int .i64 it.rep, .int .i64 it.num], .int .i64 it.seq] w (DAddPost w dp v n L it) := by
  have HX := hid h
  have HLT : Hid (∀ k, DHas dp v k → k < w.heap.size) := fun k hk => h.lt hk
  have HD1 := hid hd
  clear h hd
  go_enter Try.func19, Try.ntmps19
  go_upto_region 1 with fail
  have hb1 := below_new (w := w) (.cells #[.int .i64 it.kind, .string ⟨it.home.toArray⟩, it.data] 25)
  have HK := hid (ObjAt.new w 25 #[.int .i64 it.kind, .string ⟨it.home.toArray⟩, it.data])
  have hs1 : (w.alloc (.cells #[.int .i64 it.kind, .string ⟨it.home.toArray⟩, it.data] 25)).heap.size = w.heap.size + 1 := by simp
  generalize w.alloc (.cells #[.int .i64 it.kind, .string ⟨it.home.toArray⟩, it.data] 25) = W1 at *
  have hb2 := below_new (w := W1) (.cells #[.int .i64 it.rep, .int .i64 it.num] 37)
  have HI := hid (ObjAt.new W1 37 #[.int .i64 it.rep, .int .i64 it.num])
  rw [hs1] at HI
  replace HK := hid (HK.out.below hb2)
  have HB := hid (hb1.trans (hb2.mono (by omega)))
  generalize W1.alloc (.cells #[.int .i64 it.rep, .int .i64 it.num] 37) = w3 at *
  replace HX := hid (HX.out.below HB.out)
  clear hb1 hb2 hs1
  have k0 := HK.out.cell 0 (.int .i64 it.kind) rfl
  generalize hkb : w.heap.size = kb at *
  have HKB := hid hkb
  clear hkb
  by_cases hko : KindOk it.kind
  · obtain ⟨hk0, hk2⟩ := hko
    have HKO : Hid (KindOk it.kind) := ⟨hk0, hk2⟩
    have i0 := HI.out.cell 0 (.int .i64 it.rep) rfl
    have i1 := HI.out.cell 1 (.int .i64 it.num) rfl
    have x0 := HX.out.obj.cell 0 (.int .i64 n) rfl
    go_upto_region 3 with fail
    go_cut [46] from 17 to 46 (fun s wx => s = .bool (!decide (RangeOk n it)) ∧ ∃ m, wx = w3.drewN m)
    case first =>
      by_cases a0 : it.rep < 0
      · have HD : Hid (decide (RangeOk n it) = false) := decide_eq_false (fun h => by have := h.1; omega)
        go_quiet (fail)
        go_wp2
        go_meet
        case rel => exact ⟨by rw [HD.out]; rfl, nq, rfl⟩
      · have b0 : decide (it.rep < 0) = false := decide_eq_false a0
        by_cases a1 : (n : Int) ≤ it.rep
        · have HD : Hid (decide (RangeOk n it) = false) := decide_eq_false (fun h => by have := h.2.1; omega)
          go_quiet (fail)
          go_wp2
          go_meet
          case rel => exact ⟨by rw [HD.out]; rfl, nq, rfl⟩
        · have b1 : decide ((n : Int) ≤ it.rep) = false := decide_eq_false a1
          by_cases a2 : it.num < 1
          · have HD : Hid (decide (RangeOk n it) = false) := decide_eq_false (fun h => by have := h.2.2.1; omega)
            go_quiet (fail)
            go_wp2
            go_meet
            case rel => exact ⟨by rw [HD.out]; rfl, nq, rfl⟩
          · have b2 : decide (it.num < 1) = false := decide_eq_false a2
            by_cases a3 : 4611686018427387903 < it.num
            · have HD : Hid (decide (RangeOk n it) = false) := decide_eq_false (fun h => by have := h.2.2.2.1; omega)
              go_quiet (fail)
              go_wp2
              go_meet
              case rel => exact ⟨by rw [HD.out]; rfl, nq, rfl⟩
            · have b3 : decide (4611686018427387903 < it.num) = false := decide_eq_false a3
              by_cases a4 : it.seq < 0
              · have HD : Hid (decide (RangeOk n it) = false) := decide_eq_false (fun h => by have := h.2.2.2.2.1; omega)
                go_quiet (fail)
                go_wp2
                go_meet
                case rel => exact ⟨by rw [HD.out]; rfl, nq, rfl⟩
              · have b4 : decide (it.seq < 0) = false := decide_eq_false a4
                by_cases a5 : 4611686018427387902 < it.seq
                · have HD : Hid (decide (RangeOk n it) = false) := decide_eq_false (fun h => by have := h.2.2.2.2.2; omega)
                  go_quiet (fail)
                  go_wp2
                  go_meet
                  case rel => exact ⟨by rw [HD.out]; rfl, nq, rfl⟩
                · have b5 : decide (4611686018427387902 < it.seq) = false := decide_eq_false a5
                  have HD : Hid (decide (RangeOk n it) = true) := decide_eq_true ⟨by omega, by omega, by omega, by omega, by omega, by omega⟩
                  go_quiet (fail)
                  go_wp2
                  go_meet
                  case rel => exact ⟨by rw [HD.out]; rfl, nq, rfl⟩
    case rest =>
    obtain ⟨rfl, m, rfl⟩ := hcut
    have HX4 : Hid (DAt (w3.drewN m) dp v n L) := HX.out.below (below_drewN' m)
    have HK4 : Hid (ObjAt (w3.drewN m) kb 25 #[.int .i64 it.kind, .string ⟨it.home.toArray⟩, it.data]) := HK.out
    have HI4 : Hid (ObjAt (w3.drewN m) (kb + 1) 37 #[.int .i64 it.rep, .int .i64 it.num]) := HI.out
    have HB4 : Hid (Below kb w (w3.drewN m)) := HB.out.trans (below_drewN' m)
    clear HX HK HI HB k0 i0 i1 x0
    generalize w3.drewN m = w4 at *
    by_cases hro : RangeOk n it
    · have HE := hid (show addErr n it = 0 from by unfold addErr; rw [if_pos HKO.out, if_pos hro])
      have HS := hid (show addS n L it = L ++ [it] from if_pos ⟨HKO.out, hro⟩)
      rw [decide_eq_true hro]
      have k0 := HK4.out.cell 0 (.int .i64 it.kind) rfl
      have k1 := HK4.out.cell 1 (.string ⟨it.home.toArray⟩) rfl
      have k2 := HK4.out.cell 2 it.data rfl
      have i0 := HI4.out.cell 0 (.int .i64 it.rep) rfl
      have i1 := HI4.out.cell 1 (.int .i64 it.num) rfl
      have x1 := HX4.out.obj.cell 1 v rfl
      have f1 := HX4.out.obj.frozen 1
      have HOWN := hid HX4.out.own
      have HNE := hid HX4.out.ne
      obtain ⟨z, hinf, hzs⟩ := infoItem
      have HINF := hid hinf
      have HONE : Hid (∀ u ∈ itCells it, u.oneCell' = true) := by
        show ∀ u ∈ itCells it, _
        intro u hu
        simp only [itCells, List.mem_cons, List.not_mem_nil, or_false] at hu
        rcases hu with rfl | rfl | rfl | rfl | rfl | rfl
        · rfl
        · rfl
        · exact HD1.out
        · rfl
        · rfl
        · rfl
      have HZS := hid hzs
      have hdlt := HLT.out dp (.inl rfl)
      have HBB : Hid (Below w4.heap.size w4 (w4.alloc (.cells #[.int .i64 it.kind, .string ⟨it.home.toArray⟩, it.data, .int .i64 it.rep, .int .i64 it.num, .int .i64 it.seq] 39)).drew) := (below_new _).trans (below_drewN' 1)
      have hkl := HI4.out.lt
      clear hro hinf hzs
      have x1a : (w4.alloc (.cells #[.int .i64 it.kind, .string ⟨it.home.toArray⟩, it.data, .int .i64 it.rep, .int .i64 it.num, .int .i64 it.seq] 39)).cell? ⟨dp, 1, none⟩ = some v := ((below_new (w := w4) _).cell (p := ⟨dp, 1, none⟩) (lt_of_cell x1)).trans x1
      go_wp2_with fail
      go_upto_region 5 with fail
      go_region_law (first
        | (refine step_app_rec rfl (.tmp 51) (.tmp 56) 22 rfl 0 39 Try.underlying22 HINF.out HZS.out (by decide) v L.length (L.flatMap itCells) (itCells it) ⟨_, 0, none⟩ 1 rfl (by first | exact HOWN.out.alloc _ | exact (HOWN.out.alloc _).drew | exact (HOWN.out.drew).alloc _) rfl rfl (by first | exact RowAt.new _ _ _ _) HONE.out (by unfold maxLen; omega) (by omega) (Nat.zero_le _) ?_; intro g5 cp5 w5 ho5 hg5 hat5; have hbb := HBB.out; have hk5 : KeptS (DHas dp v) w4 w5 := (KeptS.of_below hbb).trans (KeptS.of_grown hg5) (fun i _ hi => .inr hi.symm); have hd5 : ObjAt w5 dp _ _ := ObjAt.keptS (ObjAt.below HX4.out.obj hbb) (KeptS.of_grown hg5) (fun e => HNE.out e.symm); have c5 := hd5.cell 1 v rfl; have f5 := hd5.frozen 1; have HD5 := hid hd5; have HO5 := hid ho5; have HK5 := hid hk5; have HN5 : Hid (v.ownBlock = some g5 ∨ w4.heap.size ≤ g5) := hat5.imp_right (fun e => by rw [e]; exact HBB.out.size); clear hbb hd5 ho5 hg5 hk5 hat5))
      all_goals
        have HSET := hid (HD5.out.set 1 (.slice (some ⟨g5, 0, none⟩) (L.length + 1) cp5))
        have HKS := hid (KeptS.set (S := fun k => k = dp) w5 ⟨dp, 1, none⟩ (.slice (some ⟨g5, 0, none⟩) (L.length + 1) cp5) rfl)
        have hgd : g5 ≠ dp := fun e => by
          rcases HN5.out with h | h
          · rw [e] at h; exact HNE.out h
          · omega
        have HOF := hid (owns_keptS HO5.out HKS.out (fun g hg => by simp only [Value.ownBlock, Option.some.injEq] at hg; subst hg; exact hgd))
        have HKF : Hid (KeptS (DHas dp v) w _) := ((KeptS.of_below (by rw [HKB.out]; exact HB4.out) : KeptS (DHas dp v) w w4).next HK5.out).trans HKS.out (fun i _ hi => .inl hi)
        clear c5 f5 HD5 HO5 HK5 x1 x1a f1 k0 k1 k2 i0 i1 HBB
        go_wp2_with fail
        go_ret
        refine ⟨by rw [HE.out]; rfl, ⟨.slice (some ⟨g5, 0, none⟩) (L.length + 1) cp5, ⟨?_, ?_, ?_⟩, fun k hk => ?_⟩, ?_⟩
        · exact HSET.out
        · rw [HS.out, List.length_append, List.flatMap_append]
          have h := HOF.out
          simpa using h
        · simp only [Value.ownBlock, ne_eq, Option.some.injEq]; exact hgd
        · rcases hk with h | h
          · exact .inl (.inl h)
          · simp only [Value.ownBlock, Option.some.injEq] at h
            rw [← h, HKB.out]
            rcases HN5.out with h2 | h2
            · exact .inl (.inr h2)
            · exact .inr (by omega)
        · first | exact HKF.out | exact HKF.out.next (KeptS.drewN _ 1)
    · have HE := hid (show addErr n it = 10 from by unfold addErr; rw [if_pos HKO.out, if_neg hro])
      have HS := hid (show addS n L it = L from if_neg (fun h => hro h.2))
      rw [decide_eq_false hro]
      clear hro
      go_wp2_with fail
      go_ret
      exact ⟨by rw [HE.out]; rfl, ⟨v, by rw [HS.out]; exact HX4.out, fun k hk => .inl hk⟩, KeptS.of_below (by rw [HKB.out]; exact HB4.out)⟩
  · have HE := hid (show addErr n it = 100 from if_neg hko)
    have HS := hid (show addS n L it = L from if_neg (fun h => hko h.1))
    by_cases hk0 : it.kind < 0
    · go_wp2_with fail
      go_ret
      exact ⟨by rw [HE.out]; rfl, ⟨v, by rw [HS.out]; exact HX.out, fun k hk => .inl hk⟩, KeptS.of_below (by rw [HKB.out]; exact HB.out)⟩
    · have hk2 : 2 < it.kind := by unfold KindOk at hko; omega
      clear hko
      go_wp2_with fail
      go_ret
      exact ⟨by rw [HE.out]; rfl, ⟨v, by rw [HS.out]; exact HX.out, fun k hk => .inl hk⟩, KeptS.of_below (by rw [HKB.out]; exact HB.out)⟩
end Go.Proofs.Ytongefjadoidbaa
