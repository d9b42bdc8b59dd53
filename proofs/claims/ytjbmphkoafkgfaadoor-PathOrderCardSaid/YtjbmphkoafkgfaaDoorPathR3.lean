/-
  The document's paths: Under, Join; told, awake.
-/
import Derived.Test.YtjbmphkoafkgfaaDoorPathR2
namespace Go.Proofs.YtjbmphkoafkgfaaDoor
open Go.RowKit
set_option maxRecDepth 20000
set_option linter.unusedVariables false

def RUnderPost (w : World) (p q : ByteArray) (e : Ending) (w' : World) : Prop := e = .returned (.tuple #[.bool (underP (bl p) (bl q)), .bool ((parts (bl p)).isSome && (parts (bl q)).isSome)]) ∧ Below w.heap.size w w'
theorem two_bools {v u : Value} {a b c d : Bool} (hv : v = .bool a) (hu : u = .bool b) (hac : a = c) (hbd : b = d) : Ending.returned (.tuple #[v, u]) = .returned (.tuple #[.bool c, .bool d]) := by
  subst hv; subst hu; subst hac; subst hbd; rfl

set_option maxHeartbeats 2000000 in
theorem ref_under (p q : ByteArray) (w : World) : Calls Tryd.prog 25 #[.string p, .string q] w (RUnderPost w p q) := by
  cases hp : parts (bl p) with
  | none =>
    have HU : Hid (underP (bl p) (bl q) = false) := by show _ = _; unfold underP; rw [hp]
    have HE := hid hp
    clear hp
    go_enter Tryd.func25, Tryd.ntmps25
    go_wp2_with fail
    refine (ref_parts p _).mono ?_
    rintro e w' ⟨v, rfl, hv, hb⟩
    have HB := hid hb
    rw [HE.out]
    clear hb hv
    go_wp2_with fail
    refine (ref_parts q _).mono ?_
    rintro e w2 ⟨v2, rfl, hv, hb⟩
    have HB2 := hid (below_step HB.out HB.out.size hb)
    clear hb hv HB
    go_wp2_with fail
    go_ret2
    exact ⟨two_bools rfl rfl HU.out.symm (by rw [HE.out]; rfl), HB2.out⟩
  | some a =>
  have ha8 := (parts_some hp).2.2.1
  cases hq : parts (bl q) with
  | none =>
    have HU : Hid (underP (bl p) (bl q) = false) := by show _ = _; unfold underP; rw [hp, hq]
    have HE := hid hp
    have HQ := hid hq
    clear hp hq
    go_enter Tryd.func25, Tryd.ntmps25
    go_wp2_with fail
    refine (ref_parts p _).mono ?_
    rintro e w' ⟨v, rfl, hv, hb⟩
    have HB := hid hb
    rw [HE.out]
    clear hb hv
    go_wp2_with fail
    refine (ref_parts q _).mono ?_
    rintro e w2 ⟨v2, rfl, hv, hb⟩
    have HB2 := hid (below_step HB.out HB.out.size hb)
    rw [HQ.out]
    clear hb hv HB
    go_wp2_with fail
    go_ret2
    exact ⟨two_bools rfl rfl HU.out.symm (by rw [HE.out, HQ.out]; rfl), HB2.out⟩
  | some b =>
  have hb8 := (parts_some hq).2.2.1
  have HU : Hid (underP (bl p) (bl q) = a.isPrefixOf b) := by show _ = _; unfold underP; rw [hp, hq]
  have HE := hid hp
  have HQ := hid hq
  clear hp hq
  go_enter Tryd.func25, Tryd.ntmps25
  go_wp2_with fail
  refine (ref_parts p _).mono ?_
  rintro e w' ⟨v, rfl, hv, hb⟩
  have HB := hid hb
  rw [HE.out] at hv
  rw [HE.out]
  have HV := hid hv
  clear hb hv
  go_wp2_with fail
  refine (ref_parts q _).mono ?_
  rintro e w2 ⟨v2, rfl, hv2, hb⟩
  have HB2 := hid (below_step HB.out HB.out.size hb)
  have HV2 := hid (HV.out.below hb)
  rw [HQ.out] at hv2
  rw [HQ.out]
  obtain ⟨a1, c1, rfl, hr1, -, -, -⟩ := HV2.out
  obtain ⟨a2, c2, rfl, hr2, -, -, -⟩ := hv2
  have H1 := hid hr1
  have H2 := hid hr2
  clear hb HB HV HV2 hr1 hr2
  simp only [Option.getD_some] at H1 H2 ⊢
  by_cases hlen : b.length < a.length
  · have HP := hid (pre_long hlen)
    go_wp2_with fail
    go_ret2
    exact ⟨two_bools rfl rfl (by rw [HU.out, HP.out]) (by rw [HE.out, HQ.out]; rfl), HB2.out⟩
  have hle : a.length ≤ b.length := by omega
  go_wp2_with fail
  go_loopw [10] (fun i wr => ∃ (k n : Nat), i = .int .i64 k ∧ k ≤ a.length ∧ Hid (a.take k = b.take k) ∧ wr = w2.drewN n) (fun i _ => a.length - (intOf i).toNat)
  case atStart => exact ⟨0, 0, rfl, Nat.zero_le _, rfl, rfl⟩
  case round =>
    obtain ⟨k, n, rfl, hk, hs, rfl⟩ := hrel
    by_cases hlt : k < a.length
    · have hlt2 : k < b.length := by omega
      obtain ⟨b1, o1, rfl, hc1⟩ := H1.out.at k (by simpa using hlt)
      obtain ⟨b2, o2, rfl, hc2⟩ := H2.out.at k (by simpa using hlt2)
      simp only [List.getElem_map] at hc1 hc2
      have hst := hid (pre_take_succ hlt hlt2 hs.out)
      have hne := hid (pre_ne (a := a) (b := b) hlt hlt2)
      clear H1 H2
      generalize a[k] = x at *
      generalize b[k] = y at *
      unfold txt at hc1 hc2
      go_wp2_with fail
      have hi1 : (0 : Int) ≤ (k : Int) := by omega
      have hi2 : (k : Int) < (a.length : Int) := by omega
      have hi3 : (k : Int) < (b.length : Int) := by omega
      cases hxy : (x == y) with
      | true =>
        have HXY := hid (beq_iff_eq.1 hxy)
        go_quiet (fail)
        go_wp2_with fail
        go_roundw
        case rel => exact ⟨k + 1, n + nq, by go_num, by omega, hst.out HXY.out, rfl⟩
        case measure => simp [intOf]; omega
      | false =>
        have HXY := hid (hne.out (beq_eq_false_iff_ne.1 hxy))
        go_quiet (fail)
        go_wp2_with fail
        go_ret2
        exact ⟨two_bools rfl rfl (by rw [HU.out, HXY.out.1]) (by rw [HE.out, HQ.out]; rfl), by rw [World.drewN_drewN]; exact HB2.out.trans (below_drewN' _)⟩
    · obtain rfl : k = a.length := by omega
      have HP := hid (pre_all hs.out)
      go_wp2_with fail
      go_ret2
      exact ⟨two_bools rfl rfl (by rw [HU.out, HP.out]) (by rw [HE.out, HQ.out]; rfl), HB2.out.trans (below_drewN' _)⟩

/-- told: an error just where there should be one. -/
theorem told_any (n : Int) (b : Bool) (w : World) : Calls Tryd.prog 19 #[.int .i64 n, .bool b] w fun e w' => e = .returned (.bool (if b then n == 0 else n == 20)) ∧ w = w' := by
  cases b with
  | true =>
    go_enter Tryd.func19, Tryd.ntmps19
    go_wp2_with fail
    all_goals
      go_ret
      exact ⟨rfl, rfl⟩
  | false =>
    go_enter Tryd.func19, Tryd.ntmps19
    go_wp2_with fail
    all_goals
      go_ret
      exact ⟨rfl, rfl⟩
theorem told_ok {α : Type} (o : Option α) (w : World) : Calls Tryd.prog 19 #[.int .i64 (errP o), .bool o.isSome] w fun e w' => e = .returned (.bool true) ∧ w = w' := by
  refine (told_any _ _ w).mono fun e w' ⟨he, hw⟩ => ⟨?_, hw⟩
  rw [he]
  cases o <;> rfl

theorem awake02 (w : World) : Calls Tryd.prog 16 #[] w fun e w' => e = .returned (.bool true) ∧ Below w.heap.size w w' := by
  have HP := hid (show parentP (bl ⟨#[47, 97, 47, 98, 45, 49]⟩) = some [47, 97] from by decide +kernel)
  have HH := hid (show homeP (bl ⟨#[47, 97, 47, 98, 45, 49]⟩) = [97] ∧ errP (parts (bl ⟨#[47, 97, 47, 98, 45, 49]⟩)) = 0 from by decide +kernel)
  have HC := hid (show errP (parts (bl ⟨#[47, 65]⟩)) = 20 from by decide +kernel)
  go_enter Tryd.func16, Tryd.ntmps16
  go_wp2_with fail
  refine (path_parent _ _).mono ?_
  rintro e w1 ⟨rfl, hb⟩
  have HB := hid hb
  rw [HP.out]
  clear hb
  go_wp2_with fail
  refine (path_home _ _).mono ?_
  rintro e w2 ⟨rfl, hb⟩
  have HB2 := hid (below_step HB.out HB.out.size hb)
  rw [HH.out.1, HH.out.2]
  clear hb HB
  unfold txt
  go_wp2_with fail
  refine (path_check _ _).mono ?_
  rintro e w3 ⟨rfl, hb⟩
  have HB3 := hid (below_step HB2.out HB2.out.size hb)
  rw [HC.out]
  clear hb HB2
  go_wp2_with fail
  go_ret
  exact ⟨rfl, HB3.out⟩
end Go.Proofs.YtjbmphkoafkgfaaDoor
