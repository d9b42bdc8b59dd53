/-
  SessionGone.
-/
import Derived.Test.YtdieomhddnhfoaaGone3
import Derived.Test.YtdieomhddnhfoaaArgs
namespace Go.Proofs.Ytdieomhddnhfoaa.sessionGone
open Go.RowKit
set_option maxRecDepth 20000
set_option linter.unusedVariables false

theorem below_keptS {a b c : World} {B : Nat} {S : Nat → Prop} (h : Below B a b) (hk : KeptS S b c) (hS : ∀ k, S k → B ≤ k) (hs : B ≤ b.heap.size) : Below B a c := h.trans (hk.below hS hs)

set_option maxHeartbeats 4000000 in
theorem walk (beats : Int) (a1 : Option Addr) (c1 : Nat) (rs : List Int) (w : World) (hr : RowAt w a1 (rs.map (Value.int .i64))) (hrs : rs.length ≤ 4611686018427387904) :
    Calls Try.prog 4 #[.int .i64 beats, .slice a1 rs.length c1] w fun e w' => e = .returned (.bool true) ∧ Below w.heap.size w w' := by
  have HRS := hid hr
  clear hr
  go_enter Try.func4, Try.ntmps4
  go_wp2_with fail
  refine (sess_new _).mono ?_
  rintro e w1 ⟨bt, mh, rfl, hT, hbt, hmh, hb⟩
  have HB := hid hb
  have HT := hid hT
  clear hb hT
  go_wp2_with fail
  refine (sess_open1 bt mh 5 9 _ HT.out (by decide) (by decide)).mono ?_
  rintro e w2 ⟨rfl, hk, x, rfl, hxm, hx, hlt, hge⟩
  have HB2 := hid (below_kept HB.out hk hmh HB.out.size)
  have HX := hid hx
  have hws : w.heap.size ≤ w1.heap.size := HB.out.size
  have HTO : Hid (∀ k, Touch x k → w.heap.size ≤ k) := by
    rintro k (rfl | rfl | rfl | rfl)
    · rw [hxm]; exact hmh
    · omega
    · omega
    · omega
  clear hk HB hx HT hge hws hxm hmh hbt
  by_cases hn0 : beats < 0
  · clear HRS HX HTO
    go_wp2_with fail
    refine (awake15 _).mono ?_
    rintro e w5 ⟨rfl, hb⟩
    have HB5 := hid (below_step HB2.out HB2.out.size hb)
    clear hb HB2
    go_wp2_with fail
    go_ret
    exact ⟨rfl, HB5.out⟩
  by_cases hn3 : 300 < beats
  · clear HRS HX HTO
    go_wp2_with fail
    refine (awake15 _).mono ?_
    rintro e w5 ⟨rfl, hb⟩
    have HB5 := hid (below_step HB2.out HB2.out.size hb)
    clear hb HB2
    go_wp2_with fail
    go_ret
    exact ⟨rfl, HB5.out⟩
  go_wp2_with fail
  have HKY : Hid (ObjAt (w2.alloc (.cells #[.string ⟨#[97]⟩, .int .i64 1] 30)) w2.heap.size 30 #[.string ⟨#[97]⟩, .int .i64 1]) := ObjAt.new _ _ _
  have HB3 := hid (HB2.out.alloc HB2.out.size (.cells #[.string ⟨#[97]⟩, .int .i64 1] 30))
  have HX3 := hid (HX.out.below (below_new (.cells #[.string ⟨#[97]⟩, .int .i64 1] 30)))
  have HKT : Hid (¬ Touch x w2.heap.size) := by
    rintro (h | h | h | h) <;> omega
  clear HX HB2 hlt
  generalize w2.alloc (.cells #[.string ⟨#[97]⟩, .int .i64 1] 30) = W3 at HKY HB3 HX3 ⊢
  generalize w2.heap.size = kb at HKY HKT ⊢
  go_loopw [42] (fun i wr => ∃ (k : Nat) (c : Int), i = .int .i64 k ∧ (k : Int) ≤ beats ∧ c = k ∧ Hid (TAt wr x 5 9 c 0 (.slice none 0 0) []) ∧ Hid (ObjAt wr kb 30 #[.string ⟨#[97]⟩, .int .i64 1]) ∧ Hid (Below w.heap.size w wr)) (fun i _ => beats.toNat - (intOf i).toNat)
  case atStart => exact ⟨0, 0, rfl, by omega, rfl, HX3, HKY, HB3⟩
  case round =>
    clear HX3 HKY HB3
    obtain ⟨k, c, rfl, hk, hck, HX, HK, HB⟩ := hrel
    by_cases hkl : (k : Int) < beats
    · clear HRS
      have k0 := ObjAt.cell HK.out 0 (.string ⟨#[97]⟩) rfl
      have k1 := ObjAt.cell HK.out 1 (.int .i64 1) rfl
      go_wp2_with fail
      refine (live_spare x 5 9 c 0 _ _ _ _ HX.out (by omega)).mono ?_
      rintro e w5 ⟨rfl, hb⟩
      have HB5 := hid (below_step HB.out HB.out.size hb)
      have HX5 := hid (HX.out.below hb)
      have HK5 := hid (HK.out.below hb)
      clear hb HB HX HK k0 k1
      have k0 := ObjAt.cell HK5.out 0 (.string ⟨#[97]⟩) rfl
      have k1 := ObjAt.cell HK5.out 1 (.int .i64 1) rfl
      go_wp2_with fail
      have HN6 := hid (ObjAt.new w5 30 #[.string ⟨#[97]⟩, .int .i64 1])
      have HB6 := hid (HB5.out.alloc HB5.out.size (.cells #[.string ⟨#[97]⟩, .int .i64 1] 30))
      have HX6 := hid (HX5.out.below (below_new (.cells #[.string ⟨#[97]⟩, .int .i64 1] 30)))
      have HK6 := hid (HK5.out.below (below_new (.cells #[.string ⟨#[97]⟩, .int .i64 1] 30)))
      clear HB5 HX5 HK5 k0 k1
      generalize w5.alloc (.cells #[.string ⟨#[97]⟩, .int .i64 1] 30) = W6 at HN6 HB6 HX6 HK6 ⊢
      generalize w5.heap.size = nb at HN6 ⊢
      refine (live_renew x 5 9 c 0 nb 0 1 _ HX6.out (by omega) (ObjAt.cell HN6.out 0 _ rfl) (ObjAt.cell HN6.out 1 _ rfl)).mono ?_
      rintro e w7 ⟨rfl, hT7, hk7⟩
      have HX7 := hid hT7
      have HB7 := hid (below_keptS HB6.out hk7 HTO.out HB6.out.size)
      have HK7 := hid (HK6.out.keptS hk7 HKT.out)
      clear hT7 hk7 HN6 HB6 HX6 HK6
      have k0 := ObjAt.cell HK7.out 0 (.string ⟨#[97]⟩) rfl
      have k1 := ObjAt.cell HK7.out 1 (.int .i64 1) rfl
      go_wp2_with fail
      refine (live_spare x 5 9 (c + 1) 0 _ _ _ _ HX7.out (by omega)).mono ?_
      rintro e w8 ⟨rfl, hb⟩
      have HB8 := hid (below_step HB7.out HB7.out.size hb)
      have HX8 := hid (HX7.out.below hb)
      have HK8 := hid (HK7.out.below hb)
      clear hb HB7 HX7 HK7 k0 k1
      go_wp2_with fail
      go_roundw
      case rel => exact ⟨k + 1, c + 1, by go_num, by omega, by omega, HX8, HK8, HB8⟩
      case measure => simp [intOf]; omega
    · obtain rfl : beats = (k : Int) := by omega
      subst hck
      have k0 := ObjAt.cell HK.out 0 (.string ⟨#[97]⟩) rfl
      have k1 := ObjAt.cell HK.out 1 (.int .i64 1) rfl
      go_wp2_with fail
      refine (live_expire x 5 9 _ 0 _ _ _ HX.out (map_ne HX.out.houses HX.out.live)).mono ?_
      rintro e w5 ⟨rfl, hG, hk5⟩
      have HG5 := hid hG
      have HB5 := hid (below_keptS HB.out hk5 HTO.out HB.out.size)
      have HK5 := hid (HK.out.keptS hk5 HKT.out)
      clear hG hk5 HX HB HK k0 k1
      have k0 := ObjAt.cell HK5.out 0 (.string ⟨#[97]⟩) rfl
      have k1 := ObjAt.cell HK5.out 1 (.int .i64 1) rfl
      go_wp2_with fail
      refine (gone_expire x 1 [] _ _ HG5.out).mono ?_
      rintro e w6 ⟨rfl, hb⟩
      have HB6 := hid (below_step HB5.out HB5.out.size hb)
      have HG6 := hid (HG5.out.below hb)
      have HK6 := hid (HK5.out.below hb)
      clear hb HB5 HG5 HK5 k0 k1
      go_wp2_with fail
      go_loopw [77] (fun i wr => ∃ (j : Nat) (n : Int) (es : List (Int × Value)), i = .int .i64 j ∧ j ≤ rs.length ∧ Hid (GAt wr x n es) ∧ Hid (ObjAt wr kb 30 #[.string ⟨#[97]⟩, .int .i64 1]) ∧ Hid (Below w.heap.size w wr)) (fun i _ => rs.length - (intOf i).toNat)
      case atStart => exact ⟨0, 1, [], rfl, Nat.zero_le _, HG6, HK6, HB6⟩
      case round =>
        clear HG6 HK6 HB6
        obtain ⟨j, n, es, rfl, hj, HG, HK, HB⟩ := hrel
        by_cases hjl : j < rs.length
        · obtain ⟨b, o, rfl, hcell⟩ := HRS.out.at j (by simpa using hjl)
          simp only [List.getElem_map] at hcell
          have hcw := (HB.out.cell (p := ⟨b, o + j, none⟩) (lt_of_cell hcell)).trans hcell
          clear hcell HRS
          generalize rs[j] = q at hcw
          go_wp2_with fail
          refine (gone_open x n es q 9 _ HG.out (by decide)).mono ?_
          rintro e w5 ⟨m, fresh, f, n', es', rfl, hf, hG5, hk5⟩
          have HG5 := hid hG5
          have HB5 := hid (below_keptS HB.out hk5 HTO.out HB.out.size)
          have HK5 := hid (HK.out.keptS hk5 HKT.out)
          clear hG5 hk5 HG HB HK hcw
          have k0 := ObjAt.cell HK5.out 0 (.string ⟨#[97]⟩) rfl
          have k1 := ObjAt.cell HK5.out 1 (.int .i64 1) rfl
          have hand : Hid ((f == 0) = false ∨ (f == 0) = true ∧ (m == 1) = false) := by
            by_cases h : f = 0
            · exact .inr ⟨beq_iff_eq.2 h, beq_eq_false_iff_ne.2 (hf h)⟩
            · exact .inl (beq_eq_false_iff_ne.2 h)
          clear hf
          rcases hand.out with e1 | ⟨e1, e2⟩
          all_goals
            clear hand
            go_wp2_with fail
            refine (gone_begin x n' es' 1 _ HG5.out).mono ?_
            rintro e w6 ⟨⟨v, rfl⟩, hb⟩
            have HB6 := hid (below_step HB5.out HB5.out.size hb)
            have HG6 := hid (HG5.out.below hb)
            have HK6 := hid (HK5.out.below hb)
            clear hb HB5 HG5 HK5 k0 k1
            have k0 := ObjAt.cell HK6.out 0 (.string ⟨#[97]⟩) rfl
            have k1 := ObjAt.cell HK6.out 1 (.int .i64 1) rfl
            go_wp2_with fail
            have HN7 := hid (ObjAt.new w6 30 #[.string ⟨#[97]⟩, .int .i64 1])
            have HB7 := hid (HB6.out.alloc HB6.out.size (.cells #[.string ⟨#[97]⟩, .int .i64 1] 30))
            have HG7 := hid (HG6.out.below (below_new (.cells #[.string ⟨#[97]⟩, .int .i64 1] 30)))
            have HK7 := hid (HK6.out.below (below_new (.cells #[.string ⟨#[97]⟩, .int .i64 1] 30)))
            clear HB6 HG6 HK6 k0 k1
            generalize w6.alloc (.cells #[.string ⟨#[97]⟩, .int .i64 1] 30) = W7 at HN7 HB7 HG7 HK7 ⊢
            generalize w6.heap.size = nb at HN7 ⊢
            refine (gone_renew x n' es' nb 0 1 _ HG7.out (ObjAt.cell HN7.out 0 _ rfl) (ObjAt.cell HN7.out 1 _ rfl)).mono ?_
            rintro e w8 ⟨rfl, hb⟩
            have HB8 := hid (below_step HB7.out HB7.out.size hb)
            have HG8 := hid (HG7.out.below hb)
            have HK8 := hid (HK7.out.below hb)
            clear hb HB7 HG7 HK7 HN7
            have k0 := ObjAt.cell HK8.out 0 (.string ⟨#[97]⟩) rfl
            have k1 := ObjAt.cell HK8.out 1 (.int .i64 1) rfl
            go_wp2_with fail
            refine (gone_close x n' es' _ HG8.out).mono ?_
            rintro e w9 ⟨rfl, hb⟩
            have HB9 := hid (below_step HB8.out HB8.out.size hb)
            have HG9 := hid (HG8.out.below hb)
            have HK9 := hid (HK8.out.below hb)
            clear hb HB8 HG8 HK8 k0 k1
            have k0 := ObjAt.cell HK9.out 0 (.string ⟨#[97]⟩) rfl
            have k1 := ObjAt.cell HK9.out 1 (.int .i64 1) rfl
            go_wp2_with fail
            refine (gone_end x n' es' 1 _ _ HG9.out).mono ?_
            rintro e w10 ⟨rfl, hb⟩
            have HB10 := hid (below_step HB9.out HB9.out.size hb)
            have HG10 := hid (HG9.out.below hb)
            have HK10 := hid (HK9.out.below hb)
            clear hb HB9 HG9 HK9 k0 k1
            go_wp2_with fail
            go_roundw
            case rel => exact ⟨j + 1, n', es', by go_num, by omega, HG10, HK10, HB10⟩
            case measure => simp [intOf]; omega
        · clear HRS HG HK
          go_wp2_with fail
          refine (awake15 _).mono ?_
          rintro e w5 ⟨rfl, hb⟩
          have HB5 := hid (below_step HB.out HB.out.size hb)
          clear hb HB
          go_wp2_with fail
          go_ret
          exact ⟨rfl, HB5.out⟩

def T : Ty := .pair (.int .i64) (.pair (.slice (.int .i64)) .unit)
theorem walk' (W : World) (vs : List Value) (el : T.El) (hr : ArgsRd W T vs el) (hf : Fit T el) : Calls Try.prog 4 vs.toArray W fun e w' => e = .returned (.bool true) ∧ Below W.heap.size W w' := by
  obtain ⟨v, r, cs, rfl, rfl, ⟨h1, _⟩, v2, r2, cs2, rfl, rfl, h2, rfl⟩ := hr
  simp only [List.cons.injEq, and_true] at h1
  rw [h1]
  obtain ⟨a2, c2, rfl, -, -, -, r1⟩ := ints_of_rd h2
  have b1 : el.2.1.length * 8 ≤ reachBytes := hf.2.1.1
  unfold reachBytes at b1
  exact walk _ a2 c2 el.2.1 W r1 (by omega)

theorem own : ownKnob Try.prog.godebug = none := by kernel_rfl
theorem laidOut : laidOutB Try.prog = true := by kernel_rfl

set_option maxRecDepth 100000 in
theorem lifted (os : Os) (started : os.Started) (H : Type) (enc : TypeId × Value → H) :
    ReturnsInHanded {} Try.checked os 4 .any (Rows.sessionGoneSpec.pre6 enc Try.prog Try.f4 Rows.sessionGoneRow.domain false) (Rows.sessionGoneSpec.post enc Try.prog Try.f4 false true false false) := by
  refine returnsInHanded_of_change_sized (C := Try.checked) own started (by kernel_rfl) Try.func4
    (ChangeSpec.witness6 (enc := enc) (C := Try.checked) false ⟨#[], #[.int .i64 0, .slice none 0 0], []⟩ 16 (by kernel_rfl) (by kernel_rfl) (by kernel_rfl) (by kernel_rfl)) ?_
  intro W base args ds gs before hval hW _ hsz _
  exact law_said T (by kernel_rfl) laidOut (by kernel_rfl) rfl rfl Try.underlying4 (fun ds h => by
    match ds, h with
    | [d0, d1], _ => rfl) walk' W base args ds gs before hval hW hsz

theorem over : Rows.sessionGoneRow.holds Try.pinned (OpenSpec.ofChange Rows.sessionGoneSpec) :=
  OpenClaim.holds_of_wide 4 Try.f4 rfl rfl rfl rfl rfl rfl rfl ⟨rfl, rfl, rfl, rfl, rfl⟩ rfl rfl rfl rfl rfl (by kernel_rfl) Try.func4 (by kernel_rfl)
    (of_decide_eq_true (by kernel_rfl)) (by unfold Func.isWrapper; first | (rw [if_pos (by decide +kernel)]; kernel_rfl) | (rw [if_neg (by decide +kernel)]; exact ⟨rfl, rfl⟩))
    (fun os started H enc _ => lifted os started H enc)

theorem proved : Rows.SessionGoneSaid := over
#print axioms proved
end Go.Proofs.Ytdieomhddnhfoaa.sessionGone
