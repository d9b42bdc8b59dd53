/-
  WireSums: Sum is the document's checksum of any bytes. For every input; no condition beyond the form's own reach.
-/
import Derived.Test.YtimickmlmlihpaaAwake01
import Derived.Test.YtimickmlmlihpaaArgs
namespace Go.Proofs.Ytimickmlmlihpaa.wireSums
open Go.RowKit
set_option maxRecDepth 20000
set_option linter.unusedVariables false

set_option maxHeartbeats 800000 in
theorem walk (v : Value) (l : List UInt8) (w : World) (hv : IsBytes w v l) (hm : l.length ≤ 140737488351232) :
    Calls Try.prog 3 #[v] w fun e w' => e = .returned (.bool true) ∧ Below w.heap.size w w' := by
  have HV := hid hv
  obtain ⟨a, c, rfl, hr, _⟩ := hv
  clear hr
  go_enter Try.func3, Try.ntmps3
  go_wp2_with fail
  refine (ref_copy _ l _ HV.out (by omega)).mono ?_
  rintro e w1 ⟨v1, rfl, ho, hb⟩
  obtain ⟨a1, c1, rfl, hr1, _⟩ := owns_bytes ho
  have HB := hid hb
  have HR1 := hid hr1
  clear ho hb hr1
  go_wp2_with fail
  refine (wire_sum _ _ _ l _ rfl (by omega) HR1.out).mono ?_
  rintro e w2 ⟨rfl, rfl⟩
  have hs := sumOf_lt l
  go_wp2_with fail
  refine (awake01 _).mono ?_
  rintro e w2 ⟨rfl, hb2⟩
  have HB2 := hid (below_step HB.out HB.out.size hb2)
  have HR2 := hid (HR1.out.below hb2)
  have HV2 := hid ((HV.out.below HB.out).below hb2)
  clear hb2 HB HR1 HV
  go_wp2_with fail
  obtain ⟨a0, c0, e0, hr0, _⟩ := HV2.out
  simp only [Value.slice.injEq] at e0
  obtain ⟨rfl, _, rfl⟩ := e0
  have HR0 := hid hr0
  clear hr0
  refine (ref_sum _ _ _ l _ rfl (by omega) HR0.out).mono ?_
  rintro e w3 ⟨rfl, rfl⟩
  go_wp2_with fail
  go_ret
  exact ⟨ret_v (show Value.bool (decide ((sumOf l : Int) < 4294967296)) = _ by rw [decide_eq_true (by omega)]), HB2.out⟩

theorem own : ownKnob Try.prog.godebug = none := by kernel_rfl
theorem laidOut : laidOutB Try.prog = true := by kernel_rfl

def T : Ty := .pair (.slice (.int .u8)) .unit

theorem walk' (W : World) (vs : List Value) (el : T.El) (hr : ArgsRd W T vs el) (hf : Fit T el) : Calls Try.prog 3 vs.toArray W fun e w' => e = .returned (.bool true) ∧ Below W.heap.size W w' := by
  obtain ⟨v, r, cs, rfl, rfl, h1, rfl⟩ := hr
  obtain ⟨bs, hl, hb, _⟩ := bytes_of_rd h1
  have h2 : el.1.length * 1 ≤ reachBytes := hf.1.1
  exact walk v bs W hb (by rw [hl]; unfold reachBytes at h2; omega)

set_option maxRecDepth 100000 in
theorem lifted (os : Os) (started : os.Started) (H : Type) (enc : TypeId × Value → H) :
    ReturnsInHanded {} Try.checked os 3 .any (Rows.wireSumsSpec.pre6 enc Try.prog Try.f3 Rows.wireSumsRow.domain false) (Rows.wireSumsSpec.post enc Try.prog Try.f3 false true false false) := by
  refine returnsInHanded_of_change_sized (C := Try.checked) own started (by kernel_rfl) Try.func3
    (ChangeSpec.witness6 (enc := enc) (C := Try.checked) false ⟨#[], #[.slice none 0 0], []⟩ 8 (by kernel_rfl) (by kernel_rfl) (by kernel_rfl) (by kernel_rfl)) ?_
  intro W base args ds gs before hval hW _ hsz _
  exact law_said T (by kernel_rfl) laidOut (by kernel_rfl) rfl rfl Try.underlying4 (fun ds h => by
    match ds, h with
    | [d0], _ => rfl) walk' W base args ds gs before hval hW hsz

theorem over : Rows.wireSumsRow.holds Try.pinned (OpenSpec.ofChange Rows.wireSumsSpec) :=
  OpenClaim.holds_of_wide 3 Try.f3 rfl rfl rfl rfl rfl rfl rfl ⟨rfl, rfl, rfl, rfl, rfl⟩ rfl rfl rfl rfl rfl (by kernel_rfl) Try.func3 (by kernel_rfl)
    (of_decide_eq_true (by kernel_rfl)) (by unfold Func.isWrapper; first | (rw [if_pos (by decide +kernel)]; kernel_rfl) | (rw [if_neg (by decide +kernel)]; exact ⟨rfl, rfl⟩))
    (fun os started H enc _ => lifted os started H enc)

theorem proved : Rows.WireSumsSaid := over
#print axioms proved
end Go.Proofs.Ytimickmlmlihpaa.wireSums
