/-
  Interf: build.
-/
import Derived.Test.YtongefjadoidbaaInt8
import Derived.Deep.RegionHeld3
namespace Go.Proofs.Ytongefjadoidbaa
open Go.RowKit
set_option maxRecDepth 20000
set_option linter.unusedVariables false

def goodL (n : Nat) (its : List It) : List It := its.filter fun i => decide (GoodIt n i)
theorem goodL_snoc (n : Nat) (its : List It) {j : Nat} (hj : j < its.length) : goodL n (its.take (j + 1)) = addS n (goodL n (its.take j)) its[j] := by
  unfold goodL addS
  rw [List.take_succ_eq_append_getElem hj, List.filter_append]
  by_cases h : GoodIt n its[j] <;> simp [h]
theorem flat_at {α : Type} {f : α → List Value} {c : Nat} (hc : ∀ x, (f x).length = c) : ∀ (l : List α) (j i : Nat) (hj : j < l.length), i < c → (l.flatMap f)[j * c + i]? = (f l[j])[i]?
  | [], j, i, hj, _ => absurd hj (Nat.not_lt_zero _)
  | x :: l, 0, i, _, hi => by
    rw [List.flatMap_cons, Nat.zero_mul, Nat.zero_add, List.getElem?_append_left (by rw [hc]; exact hi)]; rfl
  | x :: l, j + 1, i, hj, hi => by
    rw [List.flatMap_cons, List.getElem?_append_right (by rw [hc, Nat.add_mul]; omega), hc]
    have := flat_at hc l j i (by simpa using hj) hi
    rw [show (j + 1) * c + i - c = j * c + i by rw [Nat.add_mul]; omega]
    simpa using this
theorem row_it {w : World} {a : Option Addr} {its : List It} (h : RowAt w a (its.flatMap itCells)) {j : Nat} (hj : j < its.length) : ∃ b o, a = some ⟨b, o, none⟩ ∧
    w.cell? ⟨b, o + j * 6, none⟩ = some (.int .i64 its[j].kind) ∧ w.cell? ⟨b, o + j * 6 + 1, none⟩ = some (.string ⟨its[j].home.toArray⟩) ∧ w.cell? ⟨b, o + j * 6 + 2, none⟩ = some its[j].data ∧
    w.cell? ⟨b, o + j * 6 + 3, none⟩ = some (.int .i64 its[j].rep) ∧ w.cell? ⟨b, o + j * 6 + 4, none⟩ = some (.int .i64 its[j].num) ∧ w.cell? ⟨b, o + j * 6 + 5, none⟩ = some (.int .i64 its[j].seq) := by
  have key : ∀ i v, (itCells its[j])[i]? = some v → i < 6 → ∃ b o, a = some ⟨b, o, none⟩ ∧ w.cell? ⟨b, o + (j * 6 + i), none⟩ = some v := fun i v hv hi =>
    h (j * 6 + i) v (by rw [flat_at (c := 6) (fun x => rfl) its j i hj hi]; exact hv)
  obtain ⟨b, o, rfl, h0⟩ := key 0 _ rfl (by decide)
  refine ⟨b, o, rfl, h0, ?_⟩
  have key2 : ∀ i v, (itCells its[j])[i]? = some v → i < 6 → w.cell? ⟨b, o + j * 6 + i, none⟩ = some v := fun i v hv hi => by
    obtain ⟨b', o', e, h1⟩ := key i v hv hi
    simp only [Option.some.injEq, Addr.mk.injEq, and_true] at e
    obtain ⟨rfl, rfl⟩ := e
    rw [Nat.add_assoc]; exact h1
  exact ⟨key2 1 _ rfl (by decide), key2 2 _ rfl (by decide), key2 3 _ rfl (by decide), key2 4 _ rfl (by decide), key2 5 _ rfl (by decide)⟩

theorem build_no (n : Int) (v : Value) (w : World) (h : n < 1 ∨ 7 < n) : Calls Try.prog 7 #[.int .i64 n, v] w fun e w' => e = .returned (.tuple #[.pointer none, .pointer none, .bool false]) ∧ w = w' := by
  go_enter Try.func7, Try.ntmps7
  go_wp2_with fail
  refine (interf_newN n w h).mono ?_
  rintro e w1 ⟨rfl, rfl⟩
  clear h
  go_wp2_with fail
  go_ret3
  exact ⟨rfl, rfl⟩

/-- Both indexes are built. -/
def BuildPost (n : Nat) (its : List It) (w : World) (e : Ending) (w' : World) : Prop :=
  ∃ (x : IdxP) (dp : Nat) (v : Value), e = .returned (.tuple #[.pointer (some ⟨x.ib, 0, none⟩), .pointer (some ⟨dp, 0, none⟩), .bool true]) ∧ IdxAt w' x n (goodL n its) ∧ DAt w' dp v n (goodL n its) ∧
    (∀ k, x.Has k → w.heap.size ≤ k) ∧ (∀ k, DHas dp v k → w.heap.size ≤ k) ∧ (∀ k, x.Has k → ¬ DHas dp v k) ∧ Below w.heap.size w w'

set_option maxHeartbeats 4000000 in
theorem build_yes (n : Nat) (a : Option Addr) (c : Nat) (its : List It) (w : World) (h1 : 1 ≤ n) (h7 : n ≤ 7) (hr : RowAt w a (its.flatMap itCells)) (hd : ∀ i ∈ its, ∃ d l c, i.data = .slice d l c) (hm : its.length * 72 ≤ 140737488355328) :
    Calls Try.prog 7 #[.int .i64 n, .slice a its.length c] w (BuildPost n its w) := by
  have HR := hid hr
  have HD := hid hd
  clear hr hd
  go_enter Try.func7, Try.ntmps7
  go_wp2_with fail
  refine (interf_new n w h1 h7).mono ?_
  rintro e w1 ⟨x, rfl, hx, hh, hb⟩
  have HX := hid hx
  have HH := hid hh
  have HB := hid hb
  clear hx hh hb
  have hlx : Hid (∀ k, x.Has k → k < w1.heap.size) := fun k hk => HX.out.g.lt hk
  have hb4 := below_new (w := w1) (.cells #[.int .i64 n, .slice none 0 0] 57)
  have HDA : Hid (DAt (w1.alloc (.cells #[.int .i64 n, .slice none 0 0] 57)) w1.heap.size (.slice none 0 0) n (goodL n (its.take 0))) := by
    show DAt _ _ _ _ _
    rw [List.take_zero]
    exact ⟨ObjAt.new _ _ _, World.ownsRow_nil _ _ _ _, by simp [Value.ownBlock]⟩
  have HXA : Hid (IdxAt (w1.alloc (.cells #[.int .i64 n, .slice none 0 0] 57)) x n (goodL n (its.take 0))) := by
    show IdxAt _ _ _ _
    rw [List.take_zero]
    exact HX.out.below hb4
  have HAP : Hid (∀ k, x.Has k → ¬ DHas w1.heap.size (.slice none 0 0) k) := fun k hk h => by
    have := hlx.out k hk
    rcases h with h | h
    · omega
    · simp [Value.ownBlock] at h
  have HBA := hid (HB.out.trans (hb4.mono HB.out.size))
  have HDH : Hid (∀ k, DHas w1.heap.size (.slice none 0 0) k → w.heap.size ≤ k) := fun k h => by
    have := HB.out.size
    rcases h with h | h
    · omega
    · simp [Value.ownBlock] at h
  clear HX HB hb4
  go_wp2_with fail
  generalize w1.alloc (.cells #[.int .i64 n, .slice none 0 0] 57) = w2 at *
  generalize w1.heap.size = dp at *
  obtain ⟨ibx, hibx⟩ : ∃ b, x.ib = b := ⟨_, rfl⟩
  rw [hibx]
  have HIB := hid hibx
  clear hibx hlx
  go_loopw [28] (fun s wr => ∃ (j : Nat) (x : IdxP) (v : Value), s = .int .i64 j ∧ j ≤ its.length ∧ Hid (x.ib = ibx) ∧ Hid (IdxAt wr x n (goodL n (its.take j))) ∧ Hid (DAt wr dp v n (goodL n (its.take j))) ∧ Hid (∀ k, x.Has k → w.heap.size ≤ k) ∧ Hid (∀ k, DHas dp v k → w.heap.size ≤ k) ∧ Hid (∀ k, x.Has k → ¬ DHas dp v k) ∧ Hid (Below w.heap.size w wr)) (fun s _ => its.length - (intOf s).toNat)
  case atStart => exact ⟨0, x, _, rfl, Nat.zero_le _, HIB, HXA, HDA, HH, HDH, HAP, HBA⟩
  case round =>
    clear HXA HDA HH HDH HAP HBA HIB
    obtain ⟨j, x, v, rfl, hj, HIB, HX, HDA, HH, HDH, HAP, HB⟩ := hrel
    by_cases hlt : j < its.length
    · obtain ⟨b, o, rfl, r0, r1, r2, r3, r4, r5⟩ := row_it (HR.out.below HB.out) hlt
      have HGS := hid (goodL_snoc n its hlt)
      have HD1 := hid (HD.out its[j] (List.getElem_mem hlt))
      have hgl : (goodL n (its.take j)).length ≤ j := by
        unfold goodL
        exact Nat.le_trans (List.length_filter_le _ _) (by rw [List.length_take]; omega)
      generalize goodL n (its.take j) = S at *
      generalize its[j] = it at *
      obtain ⟨ki, ho, da, re, nu, se⟩ := it
      obtain ⟨d1, d2, d3, hde⟩ := HD1.out
      dsimp only at hde r0 r1 r2 r3 r4 r5
      subst hde
      clear HD1
      go_upto_region 8 with fail
      have hb4 := below_new (w := wr) (.cells #[.int .i64 ki, .string ⟨ho.toArray⟩, .slice d1 d2 d3, .int .i64 re, .int .i64 nu, .int .i64 se] 39)
      have HK := hid (ObjAt.new wr 39 #[.int .i64 ki, .string ⟨ho.toArray⟩, .slice d1 d2 d3, .int .i64 re, .int .i64 nu, .int .i64 se])
      have HKX : Hid (∀ k, x.Has k → k < wr.heap.size) := fun k hk => HX.out.g.lt hk
      have HKD : Hid (∀ k, DHas dp v k → k < wr.heap.size) := fun k hk => HDA.out.lt hk
      have hwr := HB.out.size
      replace HX := hid (HX.out.below hb4)
      replace HDA := hid (HDA.out.below hb4)
      replace HB := hid (HB.out.trans (hb4.mono hwr))
      generalize wr.alloc (.cells #[.int .i64 ki, .string ⟨ho.toArray⟩, .slice d1 d2 d3, .int .i64 re, .int .i64 nu, .int .i64 se] 39) = wq at *
      generalize wr.heap.size = kb at *
      have c0 := HK.out.cell 0 (.int .i64 ki) rfl
      have c1 := HK.out.cell 1 (.string ⟨ho.toArray⟩) rfl
      have c2 := HK.out.cell 2 (.slice d1 d2 d3) rfl
      have c3 := HK.out.cell 3 (.int .i64 re) rfl
      have c4 := HK.out.cell 4 (.int .i64 nu) rfl
      have c5 := HK.out.cell 5 (.int .i64 se) rfl
      have HXd : Hid (IdxAt wq.drew x n S) := HX.out.below (below_drewN' 1)
      have HDd : Hid (DAt wq.drew dp v n S) := HDA.out.below (below_drewN' 1)
      clear r0 r1 r2 r3 r4 r5 HX HDA
      go_cut [48] from 32 to 48 (fun s wx => s = .bool false ∧ ∃ (x' : IdxP) (v' : Value), Hid (x'.ib = ibx) ∧ Hid (IdxAt wx x' n (addS n S ⟨ki, ho, .slice d1 d2 d3, re, nu, se⟩)) ∧ Hid (DAt wx dp v' n (addS n S ⟨ki, ho, .slice d1 d2 d3, re, nu, se⟩)) ∧ Hid (∀ k, x'.Has k → w.heap.size ≤ k) ∧ Hid (∀ k, DHas dp v' k → w.heap.size ≤ k) ∧ Hid (∀ k, x'.Has k → ¬ DHas dp v' k) ∧ Hid (Below w.heap.size w wx))
      case first =>
        go_region_held3 (fun w' => w'.cell? ⟨kb, 0, none⟩ = some (.int .i64 ki) ∧ w'.cell? ⟨kb, 1, none⟩ = some (.string ⟨ho.toArray⟩) ∧ w'.cell? ⟨kb, 2, none⟩ = some (.slice d1 d2 d3) ∧ w'.cell? ⟨kb, 3, none⟩ = some (.int .i64 re) ∧ w'.cell? ⟨kb, 4, none⟩ = some (.int .i64 nu) ∧ w'.cell? ⟨kb, 5, none⟩ = some (.int .i64 se))
          (first | go_keep | exact Hid.out (by assumption))
          (first
            | (go_at_call 14; have hadd := idx_add x n S ⟨ki, ho, .slice d1 d2 d3, re, nu, se⟩ wq.drew HXd.out; rw [HIB.out] at hadd; refine hadd.mono ?_; clear hadd; rintro e wa ⟨rfl, ⟨x', hx1, hx2, hx3⟩, hkx⟩; have HKA := hid (HK.out.keptS (w := wq.drew) hkx (fun h => absurd (HKX.out _ h) (Nat.lt_irrefl _))); have HSA := hid (And.intro (HKA.out.cell 0 (.int .i64 ki) rfl) (And.intro (HKA.out.cell 1 (.string ⟨ho.toArray⟩) rfl) (And.intro (HKA.out.cell 2 (.slice d1 d2 d3) rfl) (And.intro (HKA.out.cell 3 (.int .i64 re) rfl) (And.intro (HKA.out.cell 4 (.int .i64 nu) rfl) (HKA.out.cell 5 (.int .i64 se) rfl)))))); have HDa := hid (HDd.out.keptS hkx (fun k hk h => HAP.out k h hk)); have HX1 := hid hx1; have HX2 := hid hx2; have HX3 := hid hx3; have HKXA := hid hkx; clear hx1 hx2 hx3 hkx)
            | (go_at_call 19; refine (ref_add dp v n S ⟨ki, ho, .slice d1 d2 d3, re, nu, se⟩ _ HDa.out rfl (by omega)).mono ?_; rintro e wb ⟨rfl, ⟨v', hv1, hv2⟩, hkd⟩; have HKB := hid (HKA.out.keptS hkd (fun h => absurd (HKD.out _ h) (Nat.lt_irrefl _))); have HSB := hid (And.intro (HKB.out.cell 0 (.int .i64 ki) rfl) (And.intro (HKB.out.cell 1 (.string ⟨ho.toArray⟩) rfl) (And.intro (HKB.out.cell 2 (.slice d1 d2 d3) rfl) (And.intro (HKB.out.cell 3 (.int .i64 re) rfl) (And.intro (HKB.out.cell 4 (.int .i64 nu) rfl) (HKB.out.cell 5 (.int .i64 se) rfl)))))); have HV1 := hid hv1; have HV2 := hid hv2; have HKDB := hid hkd; clear hv1 hv2 hkd))
        have hsz1 := HKXA.out.size
        have hsz2 := HKDB.out.size
        have hkq : kb < wq.heap.size := HK.out.lt
        have hqd : wq.drew.heap.size = wq.heap.size := rfl
        have HXF : Hid (IdxAt wb x' n (addS n S ⟨ki, ho, .slice d1 d2 d3, re, nu, se⟩)) := HX2.out.keptS HKDB.out (fun k hk h => by
          rcases HX3.out k hk with h2 | h2
          · exact HAP.out k h2 h
          · have := HKD.out k h; omega)
        have HHF : Hid (∀ k, x'.Has k → w.heap.size ≤ k) := fun k hk => by
          rcases HX3.out k hk with h2 | h2
          · exact HH.out k h2
          · omega
        have HDF : Hid (∀ k, DHas dp v' k → w.heap.size ≤ k) := fun k hk => by
          rcases HV2.out k hk with h2 | h2
          · exact HDH.out k h2
          · omega
        have HAF : Hid (∀ k, x'.Has k → ¬ DHas dp v' k) := fun k hk h => by
          have hlt1 := HX2.out.g.lt hk
          rcases HV2.out k h with h2 | h2
          · rcases HX3.out k hk with h3 | h3
            · exact HAP.out k h3 h2
            · have := HKD.out k h2; omega
          · omega
        have HBF : Hid (Below w.heap.size w wb) := (HB.out.trans ((below_drewN' 1).trans (HKXA.out.below HH.out (by omega)))).trans (HKDB.out.below HDH.out (by omega))
        have HIF : Hid (x'.ib = ibx) := HX1.out.trans HIB.out
        have hee : ∀ e : Int, (e != e) = false := fun e => by unfold bne; rw [beq_self_eq_true]; rfl
        have HEE := hid (hee (addErr n ⟨ki, ho, .slice d1 d2 d3, re, nu, se⟩))
        clear hee HX1 HX2 HX3 HV2 HKA HSA HDa HKXA HKDB HKB HSB
        go_wp2_with fail
        go_meet
        case rel => exact ⟨rfl, x', v', HIF, HXF, HV1, HHF, HDF, HAF, HBF⟩
      case rest =>
        obtain ⟨rfl, x', v', HIF, HXF, HDF, HHF, HDHF, HAF, HBF⟩ := hcut
        clear HXd HDd HK c0 c1 c2 c3 c4 c5 hb4 HB
        go_wp2_with fail
        go_roundw
        case rel => exact ⟨j + 1, x', v', by go_num, by omega, HIF, by rw [HGS.out]; exact HXF, by rw [HGS.out]; exact HDF, HHF, HDHF, HAF, HBF⟩
        case measure => simp [intOf]; omega
    · obtain rfl : j = its.length := by omega
      rw [List.take_length] at HX HDA
      have HIB2 := HIB
      go_wp2_with fail
      go_ret3
      exact ⟨x, dp, v, by rw [HIB2.out]; rfl, HX.out, HDA.out, HH.out, HDH.out, HAP.out, HB.out⟩
end Go.Proofs.Ytongefjadoidbaa
