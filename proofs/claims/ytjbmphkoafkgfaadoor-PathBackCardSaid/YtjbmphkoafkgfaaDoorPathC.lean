/-
  PathChecks, PathJoins, PathBack: the walks.
-/
import Derived.Test.YtjbmphkoafkgfaaDoorPathR3
import Derived.Test.YtjbmphkoafkgfaaDoorPathJ
namespace Go.Proofs.YtjbmphkoafkgfaaDoor
open Go.RowKit
set_option maxRecDepth 20000
set_option linter.unusedVariables false

set_option maxHeartbeats 4000000 in
theorem checks_walk (s : ByteArray) (w : World) : Calls Tryd.prog 3 #[.string s] w fun e w' => e = .returned (.bool true) ∧ Below w.heap.size w w' := by
  go_enter Tryd.func3, Tryd.ntmps3
  go_wp2_with fail
  refine (ref_parts s _).mono ?_
  rintro e w1 ⟨v1, rfl, hv1, hb⟩
  have HB1 := hid hb
  have HV1 := hid hv1
  clear hb hv1
  go_wp2_with fail
  refine (path_parts s _).mono ?_
  rintro e w2 ⟨v2, rfl, hv2, hb⟩
  have HB2 := hid (below_step HB1.out HB1.out.size hb)
  have HV1' := hid (HV1.out.below hb)
  have HV2 := hid hv2
  clear hb hv2 HB1 HV1
  go_wp2_with fail
  refine (path_parent s _).mono ?_
  rintro e w3 ⟨rfl, hb⟩
  have HB3 := hid (below_step HB2.out HB2.out.size hb)
  have HV1 := hid (HV1'.out.below hb)
  have HV2' := hid (HV2.out.below hb)
  clear hb HB2 HV1' HV2
  go_wp2_with fail
  refine (ref_parent s _).mono ?_
  rintro e w4 ⟨rfl, hb⟩
  have HB4 := hid (below_step HB3.out HB3.out.size hb)
  have HV1' := hid (HV1.out.below hb)
  have HV2 := hid (HV2'.out.below hb)
  clear hb HB3 HV1 HV2'
  go_wp2_with fail
  refine (path_base s _).mono ?_
  rintro e w5 ⟨rfl, hb⟩
  have HB5 := hid (below_step HB4.out HB4.out.size hb)
  have HV1 := hid (HV1'.out.below hb)
  have HV2' := hid (HV2.out.below hb)
  clear hb HB4 HV1' HV2
  go_wp2_with fail
  refine (ref_base s _).mono ?_
  rintro e w6 ⟨rfl, hb⟩
  have HB6 := hid (below_step HB5.out HB5.out.size hb)
  have HV1' := hid (HV1.out.below hb)
  have HV2 := hid (HV2'.out.below hb)
  clear hb HB5 HV1 HV2'
  go_wp2_with fail
  refine (path_home s _).mono ?_
  rintro e w7 ⟨rfl, hb⟩
  have HB7 := hid (below_step HB6.out HB6.out.size hb)
  have HV1 := hid (HV1'.out.below hb)
  have HV2' := hid (HV2.out.below hb)
  clear hb HB6 HV1' HV2
  go_wp2_with fail
  refine (ref_home s _).mono ?_
  rintro e w8 ⟨rfl, hb⟩
  have HB8 := hid (below_step HB7.out HB7.out.size hb)
  have HV1' := hid (HV1.out.below hb)
  have HV2 := hid (HV2'.out.below hb)
  clear hb HB7 HV1 HV2'
  unfold txt
  go_wp2_with fail
  refine (awake02 _).mono ?_
  rintro e w9 ⟨rfl, hb⟩
  have HB9 := hid (below_step HB8.out HB8.out.size hb)
  have HV1 := hid (HV1'.out.below hb)
  have HV2' := hid (HV2.out.below hb)
  clear hb HB8 HV1' HV2
  go_wp2_with fail
  refine (path_name s _).mono ?_
  rintro e wa ⟨rfl, hb⟩
  have HBa := hid (below_step HB9.out HB9.out.size hb)
  have HV1' := hid (HV1.out.below hb)
  have HV2 := hid (HV2'.out.below hb)
  clear hb HB9 HV1 HV2'
  go_wp2_with fail
  refine (ref_name s _).mono ?_
  rintro e wb ⟨rfl, rfl⟩
  have hbb : (nameOk (bl s) == nameOk (bl s)) = true := beq_self_eq_true _
  go_wp2_with fail
  refine (path_check s _).mono ?_
  rintro e wb ⟨rfl, hb⟩
  have HBb := hid (below_step HBa.out HBa.out.size hb)
  have HV1 := hid (HV1'.out.below hb)
  have HV2' := hid (HV2.out.below hb)
  clear hb HBa HV1' HV2 hbb
  go_wp2_with fail
  refine (told_ok (parts (bl s)) _).mono ?_
  rintro e wc ⟨rfl, rfl⟩
  go_wp2_with fail
  refine (told_ok (parts (bl s)) _).mono ?_
  rintro e wc ⟨rfl, rfl⟩
  obtain ⟨a1, c1, rfl, hr1, -, hl1, hm1⟩ := HV1.out
  obtain ⟨a2, c2, rfl, hr2, -, hl2, hm2⟩ := HV2'.out
  have h8 : ((parts (bl s)).getD []).length ≤ 8 := by
    cases e : parts (bl s) with
    | none => simp
    | some x => exact (parts_some e).2.2.1
  have HST := hid (same_texts a1 a2 c1 c2 _ _ wb hr1 hr2 (by omega) (by omega))
  have hbe : ((parts (bl s)).getD [] == (parts (bl s)).getD []) = true := beq_self_eq_true _
  rw [hbe] at HST
  clear hbe h8 hr1 hr2 hl1 hm1 hl2 hm2 HV1 HV2'
  go_wp2_with fail
  refine HST.out.mono ?_
  rintro e wd ⟨rfl, hb⟩
  have HBd := hid (below_step HBb.out HBb.out.size hb)
  clear hb HBb HST
  go_wp2_with fail
  refine (told_ok (parentP (bl s)) _).mono ?_
  rintro e wc ⟨rfl, rfl⟩
  go_wp2_with fail
  refine (told_ok (baseP (bl s)) _).mono ?_
  rintro e wc ⟨rfl, rfl⟩
  go_wp2_with fail
  refine (told_ok (parts (bl s)) _).mono ?_
  rintro e wc ⟨rfl, rfl⟩
  go_wp2_with fail
  go_ret
  exact ⟨rfl, HBd.out⟩

theorem told2_ok (p q : List UInt8) (w : World) : Calls Tryd.prog 19 #[.int .i64 (errP2 p q), .bool ((parts p).isSome && (parts q).isSome)] w fun e w' => e = .returned (.bool true) ∧ w = w' := by
  refine (told_any _ _ w).mono fun e w' ⟨he, hw⟩ => ⟨?_, hw⟩
  rw [he]
  unfold errP2
  cases parts p <;> cases parts q <;> rfl

set_option maxHeartbeats 4000000 in
theorem joins_walk (p q : ByteArray) (a : Option Addr) (c : Nat) (ns : List (List UInt8)) (w : World) (hr : RowAt w a (ns.map txt)) (hn : ns.length ≤ 140737488355328) :
    Calls Tryd.prog 4 #[.string p, .string q, .slice a ns.length c] w fun e w' => e = .returned (.bool true) ∧ Below w.heap.size w w' := by
  have HR := hid hr
  clear hr
  go_enter Tryd.func4, Tryd.ntmps4
  go_wp2_with fail
  refine (path_join p a c ns _ HR.out hn).mono ?_
  rintro e w1 ⟨rfl, hb⟩
  have HB1 := hid hb
  have HR1 := hid (HR.out.below hb)
  clear hb HR
  go_wp2_with fail
  refine (ref_join02 p a c ns _ HR1.out hn).mono ?_
  rintro e w2 ⟨rfl, hb⟩
  have HB2 := hid (below_step HB1.out HB1.out.size hb)
  clear hb HR1 HB1
  go_wp2_with fail
  refine (path_under p q _).mono ?_
  rintro e w3 ⟨rfl, hb⟩
  have HB3 := hid (below_step HB2.out HB2.out.size hb)
  clear hb HB2
  go_wp2_with fail
  refine (ref_under p q _).mono ?_
  rintro e w4 ⟨rfl, hb⟩
  have HB4 := hid (below_step HB3.out HB3.out.size hb)
  clear hb HB3
  unfold txt
  go_wp2_with fail
  refine (awake02 _).mono ?_
  rintro e w5 ⟨rfl, hb⟩
  have HB5 := hid (below_step HB4.out HB4.out.size hb)
  clear hb HB4
  go_wp2_with fail
  refine (told_ok (joinP (bl p) ns) _).mono ?_
  rintro e wc ⟨rfl, rfl⟩
  have hbb : (underP (bl p) (bl q) == underP (bl p) (bl q)) = true := beq_self_eq_true _
  go_wp2_with fail
  refine (told2_ok (bl p) (bl q) _).mono ?_
  rintro e wc ⟨rfl, rfl⟩
  go_wp2_with fail
  go_ret
  exact ⟨rfl, HB5.out⟩
end Go.Proofs.YtjbmphkoafkgfaaDoor
