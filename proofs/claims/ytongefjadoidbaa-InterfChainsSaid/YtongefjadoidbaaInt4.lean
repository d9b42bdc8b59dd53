/-
  Interf: Add.
-/
import Derived.Test.YtongefjadoidbaaInt3
import Derived.StillTailTactics
import Derived.Deep.DeepCutAuto
import Derived.Deep.CutBlock
namespace Go.Proofs.Ytongefjadoidbaa
open Go.RowKit
set_option maxRecDepth 20000
set_option linter.unusedVariables false

def AddPost (w : World) (x : IdxP) (n : Nat) (S : List It) (it : It) (e : Ending) (w' : World) : Prop :=
  e = .returned (.int .i64 (addErr n it)) ∧ (∃ x' : IdxP, x'.ib = x.ib ∧ IdxAt w' x' n (addS n S it) ∧ ∀ k, x'.Has k → x.Has k ∨ w.heap.size ≤ k) ∧ KeptS x.Has w w'

theorem allL_snoc (S : List It) (it : It) (h : it.kind ≠ 0) : allL (S ++ [it]) = allL S ++ [it] := by
  unfold allL; rw [List.filter_append]; simp [h]
theorem allL_zero (S : List It) (it : It) (h : it.kind = 0) : allL (S ++ [it]) = allL S := by
  unfold allL; rw [List.filter_append]; simp [h]
theorem globL_snoc (S : List It) (it : It) (h : it.kind = 2) : globL (S ++ [it]) = globL S ++ [it] := by
  unfold globL; rw [List.filter_append]; simp [h]
theorem globL_ne (S : List It) (it : It) (h : it.kind ≠ 2) : globL (S ++ [it]) = globL S := by
  unfold globL; rw [List.filter_append]; simp [h]
theorem homeL_snoc (S : List It) (it : It) (h : it.kind = 1) (k : List UInt8) : homeL k (S ++ [it]) = if k = it.home then homeL k S ++ [it] else homeL k S := by
  unfold homeL; rw [List.filter_append]
  by_cases e : k = it.home
  · subst e; simp [h]
  · have e' : ¬ it.home = k := fun h => e h.symm
    simp [h, e, e']
theorem homeL_ne (S : List It) (it : It) (h : it.kind ≠ 1) (k : List UInt8) : homeL k (S ++ [it]) = homeL k S := by
  unfold homeL; rw [List.filter_append]; simp [h]
theorem IdxAt.skip {w : World} {x : IdxP} {n : Nat} {S : List It} {it : It} (h : IdxAt w x n S) (hg : GoodIt n it) (hz : it.kind = 0) : IdxAt w x n (S ++ [it]) := by
  refine { h with g := ?_, keys := fun k => ?_, good := fun i hi => ?_ }
  · rw [allL_zero S it hz, globL_ne S it (by omega), show (fun k => homeL k (S ++ [it])) = fun k => homeL k S from funext fun k => homeL_ne S it (by omega) k]
    exact h.g
  · rw [h.keys k]
    constructor
    · rintro ⟨i, hi, r⟩; exact ⟨i, List.mem_append_left _ hi, r⟩
    · rintro ⟨i, hi, r⟩
      rcases List.mem_append.1 hi with hi | hi
      · exact ⟨i, hi, r⟩
      · simp only [List.mem_singleton] at hi; subst hi; omega
  · rcases List.mem_append.1 hi with hi | hi
    · exact h.good i hi
    · simp only [List.mem_singleton] at hi; subst hi; exact hg
theorem IdxAt.glue {w : World} {x : IdxP} {n : Nat} {S : List It} {it : It} {hs : List (List UInt8 × Nat × Nat)} (hg : GoodIt n it) (keys : ∀ h, h ∈ hs.map (·.1) ↔ ∃ i ∈ S, i.kind = 1 ∧ i.home = h) (good : ∀ i ∈ S, GoodIt n i) (n1 : 1 ≤ n) (n7 : n ≤ 7)
    (h : IdxG w x n (allL (S ++ [it])) (globL (S ++ [it])) (fun k => homeL k (S ++ [it]))) (hx : it.kind = 1 → False) (hh : x.hs = hs := by rfl) : IdxAt w x n (S ++ [it]) := by
  subst hh
  refine ⟨h, fun k => ?_, fun i hi => ?_, n1, n7⟩
  · rw [keys k]
    constructor
    · rintro ⟨i, hi, r⟩; exact ⟨i, List.mem_append_left _ hi, r⟩
    · rintro ⟨i, hi, r⟩
      rcases List.mem_append.1 hi with hi | hi
      · exact ⟨i, hi, r⟩
      · simp only [List.mem_singleton] at hi; subst hi; exact (hx r.1).elim
  · rcases List.mem_append.1 hi with hi | hi
    · exact good i hi
    · simp only [List.mem_singleton] at hi; subst hi; exact hg
theorem IdxAt.glue1 {w : World} {x : IdxP} {n : Nat} {S : List It} {it : It} {hs : List (List UInt8 × Nat × Nat)} (hg : GoodIt n it) (keys : ∀ h, h ∈ hs.map (·.1) ↔ ∃ i ∈ S, i.kind = 1 ∧ i.home = h) (good : ∀ i ∈ S, GoodIt n i) (n1 : 1 ≤ n) (n7 : n ≤ 7)
    (h : IdxG w x n (allL (S ++ [it])) (globL (S ++ [it])) (fun k => homeL k (S ++ [it]))) (hx : it.kind = 1) (hh : ∀ k, k ∈ x.hs.map (·.1) ↔ k ∈ hs.map (·.1) ∨ k = it.home) : IdxAt w x n (S ++ [it]) := by
  refine ⟨h, fun k => ?_, fun i hi => ?_, n1, n7⟩
  · rw [hh k, keys k]
    constructor
    · rintro (⟨i, hi, r⟩ | e)
      · exact ⟨i, List.mem_append_left _ hi, r⟩
      · exact ⟨it, by simp, hx, e.symm⟩
    · rintro ⟨i, hi, r⟩
      rcases List.mem_append.1 hi with hi | hi
      · exact .inl ⟨i, hi, r⟩
      · simp only [List.mem_singleton] at hi; subst hi; exact .inr r.2.symm
  · rcases List.mem_append.1 hi with hi | hi
    · exact good i hi
    · simp only [List.mem_singleton] at hi; subst hi; exact hg
theorem look_in {hs : List (List UInt8 × Nat × Nat)} {p : List UInt8 × Nat × Nat} (hn : (hs.map (·.1)).Nodup) (hp : p ∈ hs) : look (hmap hs) p.1 = some (.pointer (some ⟨p.2.1, 0, none⟩)) := by
  unfold look hmap
  induction hs with
  | nil => cases hp
  | cons q l ih =>
    simp only [List.map_cons, List.nodup_cons] at hn
    rcases List.mem_cons.1 hp with rfl | hp
    · simp
    · have hne : q.1 ≠ p.1 := fun e => hn.1 (List.mem_map.2 ⟨p, hp, e.symm⟩)
      rw [List.map_cons, List.find?_cons_of_neg (by simpa using hne)]
      exact ih hn.2 hp
theorem look_out {hs : List (List UInt8 × Nat × Nat)} {k : List UInt8} (h : k ∉ hs.map (·.1)) : look (hmap hs) k = none := by
  unfold look hmap
  rw [List.find?_eq_none.2 ?_]; · rfl
  intro p hp
  obtain ⟨q, hq, rfl⟩ := List.mem_map.1 hp
  intro e
  exact h (List.mem_map.2 ⟨q, hq, by simpa using e⟩)
theorem upd_out {hs : List (List UInt8 × Nat × Nat)} {k : List UInt8} {v : Value} (h : k ∉ hs.map (·.1)) : upd (hmap hs) k v = hmap hs ++ [(k, v)] := by
  unfold upd
  rw [List.findIdx?_eq_none_iff.2 ?_]
  intro p hp
  unfold hmap at hp
  obtain ⟨q, hq, rfl⟩ := List.mem_map.1 hp
  simp only [beq_eq_false_iff_ne]
  intro e
  exact h (List.mem_map.2 ⟨q, hq, e⟩)
theorem homeL_out {hs : List (List UInt8 × Nat × Nat)} {S : List It} {k : List UInt8} (keys : ∀ h, h ∈ hs.map (·.1) ↔ ∃ i ∈ S, i.kind = 1 ∧ i.home = h) (h : k ∉ hs.map (·.1)) : homeL k S = [] := by
  unfold homeL
  rw [List.filter_eq_nil_iff]
  intro i hi e
  simp only [Bool.and_eq_true, decide_eq_true_iff] at e
  exact h ((keys k).2 ⟨i, hi, e⟩)
theorem keyT : KeyOk Try.prog 9 tkey := KeyOk.text Try.underlying9
set_option maxHeartbeats 4000000 in
theorem idx_add (x : IdxP) (n : Nat) (S : List It) (it : It) (w : World) (h : IdxAt w x n S) :
    Calls Try.prog 14 #[.pointer (some ⟨x.ib, 0, none⟩), .agg #[.int .i64 it.kind, .string ⟨it.home.toArray⟩, it.data], .agg #[.int .i64 it.rep, .int .i64 it.num], .int .i64 it.seq] w (AddPost w x n S it) := by
  have HX := hid h
  have HLT : Hid (∀ k, x.Has k → k < w.heap.size) := fun k hk => h.g.lt hk
  obtain ⟨i0', hi0, hz0, hs0, hy0⟩ := info_parts infoInt
  have h1 := h.n1
  have h7 := h.n7
  clear h
  go_enter Try.func14, Try.ntmps14
  go_upto_region 1 with fail
  have hb1 := below_new (w := w) (.cells #[.int .i64 it.kind, .string ⟨it.home.toArray⟩, it.data] 25)
  have HK := hid (ObjAt.new w 25 #[.int .i64 it.kind, .string ⟨it.home.toArray⟩, it.data])
  have hs1 : (w.alloc (.cells #[.int .i64 it.kind, .string ⟨it.home.toArray⟩, it.data] 25)).heap.size = w.heap.size + 1 := by simp
  generalize w.alloc (.cells #[.int .i64 it.kind, .string ⟨it.home.toArray⟩, it.data] 25) = W1 at *
  have hb2 := below_new (w := W1) (.cells #[.int .i64 it.rep, .int .i64 it.num] 37)
  have HI := hid (ObjAt.new W1 37 #[.int .i64 it.rep, .int .i64 it.num])
  rw [hs1] at HI
  replace HK := hid (HK.out.below hb2)
  have HB := hid (hb1.trans (hb2.mono (by omega)))
  generalize W1.alloc (.cells #[.int .i64 it.rep, .int .i64 it.num] 37) = W2 at *
  replace HX := hid (HX.out.below HB.out)
  clear hb1 hb2 hs1
  have k0 := HK.out.cell 0 _ rfl
  have k1 := HK.out.cell 1 _ rfl
  have k2 := HK.out.cell 2 _ rfl
  have hlw : w.heap.size < W2.heap.size := HK.out.lt
  generalize hkb : w.heap.size = kb at *
  have HKB := hid hkb
  clear hkb
  go_wp2_with fail
  refine (int_known it.kind it.home it.data _).mono ?_
  rintro e w3 ⟨rfl, hb⟩
  replace HX := hid (HX.out.below hb)
  replace HK := hid (HK.out.below hb)
  replace HI := hid (HI.out.below hb)
  replace HB := hid (HB.out.trans (hb.mono (by omega)))
  clear k0 k1 k2 hb hlw W1
  by_cases hko : KindOk it.kind
  · rw [decide_eq_true hko]
    have k0 := HK.out.cell 0 (.int .i64 it.kind) rfl
    have k1 := HK.out.cell 1 (.string ⟨it.home.toArray⟩) rfl
    have i0 := HI.out.cell 0 (.int .i64 it.rep) rfl
    have i1 := HI.out.cell 1 (.int .i64 it.num) rfl
    obtain ⟨cap, cu, ho, -, -, -, -, -⟩ := HX.out.g.all
    have x1 := ho.cell 1 (.slice (some ⟨x.db, 0, none⟩) (depsL n (allL S)).length cap) rfl
    rw [depsL_len] at x1
    clear ho
    go_upto_region 3 with fail
    go_cut [14] from 15 to 46 (fun s wx => s = .bool (!decide (RangeOk n it)) ∧ ∃ m, wx = w3.drewN m)
    case first =>
      by_cases a0 : it.rep < 0
      · have HD : Hid (decide (RangeOk n it) = false) := decide_eq_false (fun h => by have := h.1; omega)
        go_quiet (fail)
        go_wp2
        go_meet
        case rel => exact ⟨by rw [HD.out]; rfl, nq, rfl⟩
      · have b0 : decide (it.rep < 0) = false := decide_eq_false a0
        by_cases a1 : (n : Int) ≤ it.rep
        · have HD : Hid (decide (RangeOk n it) = false) := decide_eq_false (fun h => by have := h.2.1; omega)
          go_quiet (fail)
          go_wp2
          go_meet
          case rel => exact ⟨by rw [HD.out]; rfl, nq, rfl⟩
        · have b1 : decide ((n : Int) ≤ it.rep) = false := decide_eq_false a1
          by_cases a2 : it.num < 1
          · have HD : Hid (decide (RangeOk n it) = false) := decide_eq_false (fun h => by have := h.2.2.1; omega)
            go_quiet (fail)
            go_wp2
            go_meet
            case rel => exact ⟨by rw [HD.out]; rfl, nq, rfl⟩
          · have b2 : decide (it.num < 1) = false := decide_eq_false a2
            by_cases a3 : 4611686018427387903 < it.num
            · have HD : Hid (decide (RangeOk n it) = false) := decide_eq_false (fun h => by have := h.2.2.2.1; omega)
              go_quiet (fail)
              go_wp2
              go_meet
              case rel => exact ⟨by rw [HD.out]; rfl, nq, rfl⟩
            · have b3 : decide (4611686018427387903 < it.num) = false := decide_eq_false a3
              by_cases a4 : it.seq < 0
              · have HD : Hid (decide (RangeOk n it) = false) := decide_eq_false (fun h => by have := h.2.2.2.2.1; omega)
                go_quiet (fail)
                go_wp2
                go_meet
                case rel => exact ⟨by rw [HD.out]; rfl, nq, rfl⟩
              · have b4 : decide (it.seq < 0) = false := decide_eq_false a4
                by_cases a5 : 4611686018427387903 ≤ it.seq
                · have HD : Hid (decide (RangeOk n it) = false) := decide_eq_false (fun h => by have := h.2.2.2.2.2; omega)
                  go_quiet (fail)
                  go_wp2
                  go_meet
                  case rel => exact ⟨by rw [HD.out]; rfl, nq, rfl⟩
                · have b5 : decide (4611686018427387903 ≤ it.seq) = false := decide_eq_false a5
                  have HD : Hid (decide (RangeOk n it) = true) := decide_eq_true ⟨by omega, by omega, by omega, by omega, by omega, by omega⟩
                  go_quiet (fail)
                  go_wp2
                  go_meet
                  case rel => exact ⟨by rw [HD.out]; rfl, nq, rfl⟩
    case rest =>
    obtain ⟨rfl, m, rfl⟩ := hcut
    have HX4 : Hid (IdxAt (w3.drewN m) x n S) := HX.out.below (below_drewN' m)
    have HK4 : Hid (ObjAt (w3.drewN m) kb 25 #[.int .i64 it.kind, .string ⟨it.home.toArray⟩, it.data]) := HK.out
    have HI4 : Hid (ObjAt (w3.drewN m) (kb + 1) 37 #[.int .i64 it.rep, .int .i64 it.num]) := HI.out
    have HB4 : Hid (Below kb w (w3.drewN m)) := HB.out.trans (below_drewN' m)
    clear HX HK HI HB k0 k1 i0 i1 x1
    generalize w3.drewN m = w4 at *
    by_cases hro : RangeOk n it
    · have HGI := hid (show GoodIt n it from ⟨hko, hro⟩)
      have HRO := hid hro
      have HE := hid (show addErr n it = 0 from by unfold addErr; rw [if_pos hko, if_pos hro])
      have HS := hid (show addS n S it = S ++ [it] from if_pos ⟨hko, hro⟩)
      rw [decide_eq_true hro]
      have k0 := HK4.out.cell 0 (.int .i64 it.kind) rfl
      have k1 := HK4.out.cell 1 (.string ⟨it.home.toArray⟩) rfl
      have i0 := HI4.out.cell 0 (.int .i64 it.rep) rfl
      have i1 := HI4.out.cell 1 (.int .i64 it.num) rfl
      obtain ⟨hk0, hk2⟩ := hko
      clear hro
      by_cases hz : it.kind = 0
      · have hzb : (it.kind == 0) = true := beq_iff_eq.2 hz
        have HN := hid (HX4.out.skip HGI.out hz)
        clear hz
        go_wp2_with fail
        go_ret
        exact ⟨by rw [HE.out]; rfl, ⟨x, rfl, by rw [HS.out]; exact HN.out, fun k hk => .inl hk⟩, KeptS.of_below (by rw [HKB.out]; exact HB4.out)⟩
      · have hzb : (it.kind == 0) = false := beq_eq_false_iff_ne.2 hz
        go_wp2_with fail
        go_still_tail 5, (by kernel_rfl)
        change wpList _ _ _ _ _ w4.drew
        replace HX4 : Hid (IdxAt w4.drew x n S) := HX4.out.below (below_drewN' 1)
        replace HK4 : Hid (ObjAt w4.drew kb 25 #[.int .i64 it.kind, .string ⟨it.home.toArray⟩, it.data]) := HK4.out
        replace HI4 : Hid (ObjAt w4.drew (kb + 1) 37 #[.int .i64 it.rep, .int .i64 it.num]) := HI4.out
        replace HB4 : Hid (Below kb w w4.drew) := HB4.out.trans (below_drewN' 1)
        clear k0 k1 i0 i1
        generalize w4.drew = w5 at *
        go_wp2_with fail
        refine (ent_add x.ib x.db 66 [.pointer (some ⟨x.gb, 0, none⟩), .map (some x.mb)] n (allL S) it w5 HX4.out.g.all HRO.out h7).mono ?_
        rintro e w6 ⟨rfl, he, hk⟩
        have HG := hid (HX4.out.g.growAll he hk)
        have HKEYS := hid HX4.out.keys
        have HGOOD := hid HX4.out.good
        have hib := HLT.out x.ib (.inl rfl)
        have hdb := HLT.out x.db (.inr (.inl rfl))
        have HK6 := hid (HK4.out.keptS hk (by omega))
        have HI6 := hid (HI4.out.keptS hk (by omega))
        have HF : Hid (KeptS x.Has w w6) := (KeptS.of_below (by rw [HKB.out]; exact HB4.out) : KeptS x.Has w w5).trans hk (fun i _ hi => by rcases hi with rfl | rfl; exact .inl rfl; exact .inr (.inl rfl))
        have hs6 : kb ≤ w6.heap.size := by have := HK6.out.lt; omega
        clear he hk HX4 HK4 HI4 HB4
        have k0 := HK6.out.cell 0 (.int .i64 it.kind) rfl
        have k1 := HK6.out.cell 1 (.string ⟨it.home.toArray⟩) rfl
        have i0 := HI6.out.cell 0 (.int .i64 it.rep) rfl
        have i1 := HI6.out.cell 1 (.int .i64 it.num) rfl
        obtain ⟨cap6, cu6, ho6, -, -, -, -, -⟩ := HG.out.all
        have x1 := ho6.cell 1 (.slice (some ⟨x.db, 0, none⟩) (depsL n (allL S ++ [it])).length cap6) rfl
        have x2 := ho6.cell 2 (.pointer (some ⟨x.gb, 0, none⟩)) rfl
        have x3 := ho6.cell 3 (.map (some x.mb)) rfl
        rw [depsL_len] at x1
        clear ho6
        by_cases hg2 : it.kind = 2
        · have hgb : (it.kind == 2) = true := beq_iff_eq.2 hg2
          have hgbl := HLT.out x.gb (.inr (.inr (.inl rfl)))
          have hgdl := HLT.out x.gd (.inr (.inr (.inr (.inl rfl))))
          have HZ := hid hz
          have HG2 := hid hg2
          clear hz hg2
          go_wp2_with fail
          go_still_tail 6, (by kernel_rfl)
          change wpList _ _ _ _ _ w6.drew
          replace HG : Hid (IdxG w6.drew x n (allL S ++ [it]) (globL S) (fun k => homeL k S)) := HG.out.below (below_drewN' 1)
          replace HF : Hid (KeptS x.Has w w6.drew) := HF.out.next (KeptS.drewN _ 1)
          clear k0 k1 i0 i1 x1 x2 x3
          generalize w6.drew = w7 at *
          go_wp2_with fail
          refine (ent_add x.gb x.gd 63 [] n (globL S) it w7 HG.out.glob HRO.out h7).mono ?_
          rintro e w8 ⟨rfl, he, hk⟩
          have HG8 := hid (HG.out.growGlob he hk)
          have HF8 : Hid (KeptS x.Has w w8) := HF.out.trans hk (fun i _ hi => by rcases hi with rfl | rfl; exact .inr (.inr (.inl rfl)); exact .inr (.inr (.inr (.inl rfl))))
          clear he hk HG HF
          go_wp2_with fail
          go_ret
          refine ⟨by rw [HE.out]; rfl, ⟨x, rfl, ?_, fun k hk => .inl hk⟩, HF8.out⟩
          rw [HS.out]
          exact IdxAt.glue HGI.out HKEYS.out HGOOD.out h1 h7 (by
            rw [allL_snoc S it HZ.out, globL_snoc S it HG2.out, show (fun k => homeL k (S ++ [it])) = fun k => homeL k S from funext fun k => homeL_ne S it (by have := HG2.out; omega) k]
            exact HG8.out) (fun h => by have := HG2.out; omega)
        · have hgb : (it.kind == 2) = false := beq_eq_false_iff_ne.2 hg2
          have hk1 : it.kind = 1 := by omega
          have HZ := hid hz
          have HG2 := hid hg2
          have HK1 := hid hk1
          clear hz hg2 hk1
          by_cases hin : it.home ∈ x.hs.map (·.1)
          · obtain ⟨p, hp, hpe⟩ := List.mem_map.1 hin
            have HPE := hid hpe
            have HP := hid hp
            have hlk : look (hmap x.hs) it.home = some (.pointer (some ⟨p.2.1, 0, none⟩)) := by rw [← hpe]; exact look_in HG.out.nokeys hp
            have hl : ∀ m, (Instr.lookup 64 (.map (some x.mb)) (.string ⟨it.home.toArray⟩) false).run Try.prog (w6.drewN m) = .ok (.pointer (some ⟨p.2.1, 0, none⟩)) (w6.drewN m) := fun m => by
              have r := run_look (w := w6.drewN m) Try.underlying64 keyT HG.out.homes it.home (.pointer none) (by kernel_rfl) false
              rw [hlk] at r; exact r
            have hpl := HLT.out p.2.1 (.inr (.inr (.inr (.inr (.inr ⟨p, hp, .inl rfl⟩)))))
            have hpd := HLT.out p.2.2 (.inr (.inr (.inr (.inr (.inr ⟨p, hp, .inr rfl⟩)))))
            clear hin hp hpe hlk
            go_wp2_with fail
            go_quiet (fail)
            replace HG : Hid (IdxG (w6.drewN nq) x n (allL S ++ [it]) (globL S) (fun k => homeL k S)) := HG.out.below (below_drewN' nq)
            replace HF : Hid (KeptS x.Has w (w6.drewN nq)) := HF.out.next (KeptS.drewN _ nq)
            replace i0 : (w6.drewN nq).cell? ⟨kb + 1, 0, none⟩ = some (.int .i64 it.rep) := i0
            replace i1 : (w6.drewN nq).cell? ⟨kb + 1, 1, none⟩ = some (.int .i64 it.num) := i1
            clear k0 k1 x1 x2 x3 hl
            generalize w6.drewN nq = w7 at *
            go_wp2_with fail
            refine (ent_add p.2.1 p.2.2 63 [] n (homeL p.1 S) it w7 (HG.out.ents p HP.out) HRO.out h7).mono ?_
            rintro e w8 ⟨rfl, he, hk⟩
            have HG8 := hid (HG.out.growHome HP.out he hk)
            have HF8 : Hid (KeptS x.Has w w8) := HF.out.trans hk (fun i _ hi => .inr (.inr (.inr (.inr (.inr ⟨p, HP.out, hi⟩)))))
            clear he hk HG HF i0 i1
            go_wp2_with fail
            go_ret
            refine ⟨by rw [HE.out]; rfl, ⟨x, rfl, ?_, fun k hk => .inl hk⟩, HF8.out⟩
            rw [HS.out]
            refine IdxAt.glue1 HGI.out HKEYS.out HGOOD.out h1 h7 ?_ HK1.out (fun k => ⟨fun h => .inl h, fun h => ?_⟩)
            · rw [allL_snoc S it HZ.out, globL_ne S it HG2.out, show (fun k => homeL k (S ++ [it])) = fun k => if k = p.1 then homeL k S ++ [it] else homeL k S from funext fun k => by rw [homeL_snoc S it HK1.out, HPE.out]]
              exact HG8.out
            · rcases h with h | rfl
              · exact h
              · exact List.mem_map.2 ⟨p, HP.out, HPE.out⟩
          · have HIN := hid hin
            have HL0 := hid (homeL_out HKEYS.out hin)
            have hlk : look (hmap x.hs) it.home = none := look_out hin
            have hl : ∀ m, (Instr.lookup 64 (.map (some x.mb)) (.string ⟨it.home.toArray⟩) false).run Try.prog (w6.drewN m) = .ok (.pointer none) (w6.drewN m) := fun m => by
              have r := run_look (w := w6.drewN m) Try.underlying64 keyT HG.out.homes it.home (.pointer none) (by kernel_rfl) false
              rw [hlk] at r; exact r
            clear hin hlk
            go_wp2_with fail
            go_quiet (fail)
            replace HG : Hid (IdxG (w6.drewN nq) x n (allL S ++ [it]) (globL S) (fun k => homeL k S)) := HG.out.below (below_drewN' nq)
            replace HF : Hid (KeptS x.Has w (w6.drewN nq)) := HF.out.next (KeptS.drewN _ nq)
            replace HK6 : Hid (ObjAt (w6.drewN nq) kb 25 #[.int .i64 it.kind, .string ⟨it.home.toArray⟩, it.data]) := HK6.out
            replace HI6 : Hid (ObjAt (w6.drewN nq) (kb + 1) 37 #[.int .i64 it.rep, .int .i64 it.num]) := HI6.out
            replace x1 : (w6.drewN nq).cell? ⟨x.ib, 1, none⟩ = some (.slice (some ⟨x.db, 0, none⟩) n cap6) := x1
            have hs7 : kb ≤ (w6.drewN nq).heap.size := hs6
            clear k0 k1 i0 i1 x2 x3 hl
            generalize w6.drewN nq = w7 at *
            go_wp2_with (at_make; refine wpList_make_full _ rfl _ _ 32 rfl w7.heap.size 3 i0' (.int .i64 0) 1 Try.underlying32 hi0 hz0 hs0 _ _ _ _ n rfl rfl rfl rfl (by rw [hy0]; omega) (by unfold maxLen; omega) (Nat.le_refl _) ?_; intro w8 ho hg; refine Stop.mk ?_)
            obtain ⟨cu8, hO8, hC8⟩ := made_zero w7.heap.size ho
            have hb8 := (Below.refl w7.heap.size w7).grown hg (Nat.le_refl _) (fun k hk => by cases hk)
            have hE9 := ObjAt.new w8 63 #[.int .i64 0, .slice (some ⟨w7.heap.size, 0, none⟩) n n]
            have hb9 := below_new (w := w8) (.cells #[.int .i64 0, .slice (some ⟨w7.heap.size, 0, none⟩) n n] 63)
            have hb79 := hb8.trans (hb9.mono hb8.size)
            have h89 : w7.heap.size < w8.heap.size := hO8.lt
            have HO9 := hid (hO8.below hb9)
            have HE9 := hid hE9
            replace HG := hid (HG.out.below hb79)
            replace HF : Hid (KeptS x.Has w _) := HF.out.next (KeptS.of_below hb79)
            replace HK6 := hid (HK6.out.below hb79)
            replace HI6 := hid (HI6.out.below hb79)
            have HC8 := hid hC8
            clear ho hg hO8 hC8 hb8 hE9 hb9 hb79
            refine Stop.go ?_
            go_upto_region 14 with fail
            generalize w8.alloc (.cells #[.int .i64 0, .slice (some ⟨w7.heap.size, 0, none⟩) n n] 63) = w9 at *
            clear x1
            have hd7 : kb ≤ w7.heap.size := hs7
            generalize w7.heap.size = nd at *
            generalize w8.heap.size = ne at *
            obtain ⟨cap9, cu9', ho9, -, -, -, -, -⟩ := HG.out.all
            have x3 := ho9.cell 3 (.map (some x.mb)) rfl
            have k1 := HK6.out.cell 1 (.string ⟨it.home.toArray⟩) rfl
            clear ho9
            go_still_tail 7, (by kernel_rfl)
            change wpList _ _ _ _ _ w9.drew
            replace HG : Hid (IdxG w9.drew x n (allL S ++ [it]) (globL S) (fun k => homeL k S)) := HG.out.below (below_drewN' 1)
            replace HF : Hid (KeptS x.Has w w9.drew) := HF.out.next (KeptS.drewN _ 1)
            replace HI6 : Hid (ObjAt w9.drew (kb + 1) 37 #[.int .i64 it.rep, .int .i64 it.num]) := HI6.out
            replace HO9 : Hid (ObjAt w9.drew nd 3 cu8) := HO9.out
            replace HE9 : Hid (ObjAt w9.drew ne 63 #[.int .i64 0, .slice (some ⟨nd, 0, none⟩) n n]) := HE9.out
            clear HK6 x3 k1
            generalize w9.drew = w10 at *
            obtain ⟨w11, hrun, hm, hkp, hsz, -⟩ := run_upd (P := Try.prog) Try.underlying64 keyT HG.out.homes it.home (.pointer (some ⟨ne, 0, none⟩))
            rw [upd_out HIN.out] at hm
            have hmb := HLT.out x.mb (.inr (.inr (.inr (.inr (.inl rfl)))))
            have hks : KeptS (fun k => k = x.mb) w10 w11 := KeptS.of_kept hkp rfl
            have hEnt : EntAt w11 ne nd 63 [] (depsL n []) (seqMax []) :=
              ⟨n, cu8, by rw [depsL_len]; exact HE9.out.keptS hks (by omega), HO9.out.keptS hks (by omega), by rw [depsL_nil]; exact HC8.out, by rw [depsL_len]; exact Nat.le_refl _, by unfold maxLen; omega, by omega⟩
            have hmH : MapAt w11 x.mb tkey (hmap x.hs ++ [(it.home, .pointer (some ⟨ne, 0, none⟩))]) := hm
            have HI11 := hid (HI6.out.keptS hks (by omega))
            have hw10 : w10.heap.size ≤ w11.heap.size := hks.size
            have HG11 := hid (HG.out.newHome HIN.out HL0.out hEnt hmH hks (fun k hk => by have := HLT.out k hk; omega) (fun k hk => by have := HLT.out k hk; omega))
            have HF11 : Hid (KeptS x.Has w w11) := HF.out.trans hks (fun i _ hi => .inr (.inr (.inr (.inr (.inl hi)))))
            have i0 := HI11.out.cell 0 (.int .i64 it.rep) rfl
            have i1 := HI11.out.cell 1 (.int .i64 it.num) rfl
            have HX1 : Hid (∃ x1 : IdxP, x1.ib = x.ib ∧ x1.hs = x.hs ++ [(it.home, ne, nd)] ∧ IdxG w11 x1 n (allL S ++ [it]) (globL S) (fun k => homeL k S) ∧ ∀ k, x1.Has k → x.Has k ∨ kb ≤ k) :=
              ⟨{ x with hs := x.hs ++ [(it.home, ne, nd)] }, rfl, rfl, HG11.out, fun k hk => by
                rcases hk with h | h | h | h | h | ⟨p, hp, h⟩
                · exact .inl (.inl h)
                · exact .inl (.inr (.inl h))
                · exact .inl (.inr (.inr (.inl h)))
                · exact .inl (.inr (.inr (.inr (.inl h))))
                · exact .inl (.inr (.inr (.inr (.inr (.inl h)))))
                · rcases List.mem_append.1 hp with hp | hp
                  · exact .inl (.inr (.inr (.inr (.inr (.inr ⟨p, hp, h⟩)))))
                  · simp only [List.mem_singleton] at hp
                    subst hp
                    right
                    simp only at h
                    omega⟩
            obtain ⟨x1, hx1, hxs, hg1, hh1⟩ := HX1.out
            have HP1 : Hid ((it.home, ne, nd) ∈ x1.hs) := by show _ ∈ _; rw [hxs]; simp
            have HG1 := hid hg1
            have HH1 := hid hh1
            have HXS := hid hxs
            have HX1B := hid hx1
            have hws : w.heap.size ≤ w11.heap.size := HF11.out.size
            clear hm hkp hsz hks hEnt hmH HI11 HG11 HX1 HG HF HI6 HO9 HE9 hg1 hh1 hxs hx1
            go_wp2_with fail
            refine (ent_add ne nd 63 [] n (homeL it.home S) it w11 (HG1.out.ents _ HP1.out) HRO.out h7).mono ?_
            rintro e w12 ⟨rfl, he, hk⟩
            have HG12 := hid (HG1.out.growHome HP1.out he hk)
            have HF12 : Hid (KeptS x.Has w w12) := HF11.out.trans hk (fun i hi hi2 => by have := HKB.out; omega)
            clear he hk HG1 HF11 i0 i1 hrun
            go_wp2_with fail
            go_ret
            refine ⟨by rw [HE.out]; rfl, ⟨x1, HX1B.out, ?_, by rw [HKB.out]; exact HH1.out⟩, HF12.out⟩
            rw [HS.out]
            refine IdxAt.glue1 HGI.out HKEYS.out HGOOD.out h1 h7 ?_ HK1.out (fun k => ?_)
            · rw [allL_snoc S it HZ.out, globL_ne S it HG2.out, show (fun k => homeL k (S ++ [it])) = fun k => if k = it.home then homeL k S ++ [it] else homeL k S from funext fun k => homeL_snoc S it HK1.out k]
              exact HG12.out
            · rw [HXS.out, List.map_append, List.mem_append]
              simp
    · have HE := hid (show addErr n it = 10 from by unfold addErr; rw [if_pos hko, if_neg hro])
      have HS := hid (show addS n S it = S from if_neg (fun h => hro h.2))
      rw [decide_eq_false hro]
      clear hro
      go_wp2_with fail
      go_ret
      exact ⟨by rw [HE.out]; rfl, ⟨x, rfl, by rw [HS.out]; exact HX4.out, fun k hk => .inl hk⟩, KeptS.of_below (by rw [HKB.out]; exact HB4.out)⟩
  · have HE := hid (show addErr n it = 100 from if_neg hko)
    have HS := hid (show addS n S it = S from if_neg (fun h => hko h.1))
    rw [decide_eq_false hko]
    clear hko
    go_wp2_with fail
    go_ret
    exact ⟨by rw [HE.out]; rfl, ⟨x, rfl, by rw [HS.out]; exact HX.out, fun k hk => .inl hk⟩, KeptS.of_below (by rw [HKB.out]; exact HB.out)⟩
end Go.Proofs.Ytongefjadoidbaa
