/-
  DiskPlays: a disk answers every sequence of calls as the document says: for every argument of at most 1048576 values.
-/
import Derived.Test.YtibhkkfbhbnmeaaDrB
namespace Go.Proofs.Ytibhkkfbhbnmeaa.diskPlays
open Go.RowKit
set_option maxRecDepth 20000
set_option linter.unusedVariables false

theorem ops_of2 {w : World} : ∀ (l : List TOp.El) (vss : List (List Value)), vss.length = l.length →
    (∀ (j : Nat) v x, vss[j]? = some v → l[j]? = some x → v.length = 6 ∧ Rd w TOp v x) →
    ∃ os : List Oq, os.length = l.length ∧ vss = os.map oqCells ∧ (∀ o ∈ os, OqAt w o) ∧ ∀ o ∈ os, ∃ x ∈ l, o.dl.length = x.2.2.2.1.length ∧ o.ns = x.2.2.2.2.1 ∧ o.cuts.length = x.2.2.2.2.2.1.length ∧ o.a = x.2.1 ∧ o.b = x.2.2.1
  | [], [], _, _ => ⟨[], rfl, rfl, by simp, by simp⟩
  | [], _ :: _, h, _ => by simp at h
  | _ :: _, [], h, _ => by simp at h
  | x :: l, v :: vss, h, hr => by
    obtain ⟨os, h1, h2, h3, h4⟩ := ops_of2 l vss (by simpa using h) (fun j v x hv hx => hr (j + 1) v x hv hx)
    obtain ⟨-, hc⟩ := hr 0 v x rfl rfl
    obtain ⟨c1, c2, rfl, -, ⟨rfl, -⟩, c3, c4, rfl, -, ⟨rfl, -⟩, c5, c6, rfl, -, ⟨rfl, -⟩, c7, c8, rfl, l7, hd, c9, c10, rfl, l9, hn, c11, c12, rfl, l11, hk, rfl⟩ := hc
    obtain ⟨d, rfl⟩ : ∃ d, c7 = [d] := List.length_eq_one_iff.1 l7
    obtain ⟨n, rfl⟩ : ∃ d, c9 = [d] := List.length_eq_one_iff.1 l9
    obtain ⟨k, rfl⟩ : ∃ d, c11 = [d] := List.length_eq_one_iff.1 l11
    obtain ⟨bs, b1, b2, -⟩ := bytes_of_rd hd
    obtain ⟨na, nc, rfl, n0, n1, n2, n3⟩ := names_of_rd hn
    obtain ⟨ca, cc, rfl, -, k1, k2, k3⟩ := ints_of_rd hk
    refine ⟨⟨x.1, x.2.1, x.2.2.1, d, bs, x.2.2.2.2.1, na, nc, x.2.2.2.2.2.1, ca, cc⟩ :: os, by simp [h1], ?_, ?_, ?_⟩
    · rw [List.map_cons, h2]; rfl
    · intro o ho
      rcases List.mem_cons.1 ho with rfl | ho
      · exact ⟨b2, n3, n0, n1, n2, k3, k1, k2⟩
      · exact h3 o ho
    · intro o ho
      rcases List.mem_cons.1 ho with rfl | ho
      · exact ⟨x, List.mem_cons_self .., b1, rfl, rfl, rfl, rfl⟩
      · obtain ⟨y, hy, hz⟩ := h4 o ho
        exact ⟨y, List.mem_cons_of_mem _ hy, hz⟩
def T : Ty := .pair (.int .i64) (.pair (.slice TOp) .unit)
theorem walk' (W : World) (vs : List Value) (el : T.El) (hr : ArgsRd W T vs el) (hf : Blk T el ≤ 1048576) : Calls Try.prog 5 vs.toArray W fun e w' => e = .returned (.bool true) ∧ Below W.heap.size W w' := by
  obtain ⟨v1, r1, cs1, rfl, hv1, hx1, v2, r2, cs2, rfl, hv2, hx2, rfl⟩ := hr
  obtain ⟨rfl, -⟩ := hx1
  obtain rfl : v1 = .int .i64 el.fst := by simpa [ValOf, eq_comm] using hv1
  obtain rfl : cs2 = [v2] := hv2
  obtain ⟨a, c, vss, hv, h0, h1, h2, hl, hrow, hx⟩ := hx2
  obtain ⟨os, e1, e2, ho, hs⟩ := ops_of2 el.2.1 vss hl (fun j v x hv hx' => hx j v x hv hx')
  simp only [List.cons.injEq, and_true] at hv
  subst hv
  rw [e2] at hrow
  have m1 : Blk (.slice TOp) el.2.1 ≤ Blk T el := by
    show _ ≤ Blk (.int .i64) el.1 + (Blk (.slice TOp) el.2.1 + _)
    omega
  have m2 := blk_slice (e := TOp) (fun x => by show 1 ≤ 1 + _; omega) el.2.1
  rw [← e1]
  refine plays_walk el.fst a c os W hrow ho (fun o h => ?_) (by rw [e1]; omega)
  obtain ⟨x, hx, q1, q2, q3, q4, q5⟩ := hs o h
  have m3 := blk_mem (e := TOp) hx
  have m4 : Blk .str x.2.1 + Blk .str x.2.2.1 + Blk (.slice (.int .u8)) x.2.2.2.1 + Blk (.slice .str) x.2.2.2.2.1 + Blk (.slice (.int .i64)) x.2.2.2.2.2.1 ≤ Blk TOp x := by
    show _ ≤ Blk (.int .i64) x.1 + (Blk .str x.2.1 + (Blk .str x.2.2.1 + (Blk (.slice (.int .u8)) x.2.2.2.1 + (Blk (.slice .str) x.2.2.2.2.1 + (Blk (.slice (.int .i64)) x.2.2.2.2.2.1 + _)))))
    omega
  have n1 := blk_slice (e := .int .u8) (fun x => Nat.le_refl _) x.2.2.2.1
  have n2 := blk_slice (e := .str) (fun x => by simp only [Blk]; omega) x.2.2.2.2.1
  have n3 := blk_slice (e := .int .i64) (fun x => Nat.le_refl _) x.2.2.2.2.2.1
  have n4 : Blk .str x.2.1 = x.2.1.length + 1 := rfl
  have n5 : Blk .str x.2.2.1 = x.2.2.1.length + 1 := rfl
  refine ⟨by rw [q1]; omega, by rw [q2]; omega, by rw [q3]; omega, by rw [q4]; omega, by rw [q5]; omega, fun s hs => ?_⟩
  rw [q2] at hs
  have m5 := blk_mem (e := .str) hs
  have m6 : Blk .str s = s.length + 1 := rfl
  omega

theorem own : ownKnob Try.prog.godebug = none := by kernel_rfl
theorem laidOut : laidOutB Try.prog = true := by kernel_rfl

set_option maxRecDepth 100000 in
theorem lifted (os : Os) (started : os.Started) (H : Type) (enc : TypeId × Value → H) (F : Stop.Interp) :
    ReturnsInHanded {} Try.checked os 5 .any ((Rows.OpenSpec.upto Rows.diskPlaysSpec).pre6 enc Try.prog Try.f5 Rows.diskPlaysUptoRow.domain false) (((Rows.OpenSpec.upto Rows.diskPlaysSpec).at F).post enc Try.prog Try.f5 false true false false) := by
  refine returnsInHanded_of_cond (C := Try.checked) (s := Rows.OpenSpec.upto Rows.diskPlaysSpec) (k := Rows.uptoSmall) rfl own started (by kernel_rfl) Try.func5
    (OpenSpec.witness (enc := enc) (C := Try.checked) (s := Rows.OpenSpec.upto Rows.diskPlaysSpec) (k := Rows.uptoSmall) rfl false ⟨#[], #[.int .i64 0, .slice none 0 0], []⟩ 16 (by kernel_rfl) (by kernel_rfl) (by kernel_rfl)
      (x := ([.lit (.int .i64 0), .nil], [], [])) (by kernel_rfl) rfl (by kernel_rfl)) ?_
  intro W base args ds gs before hval hW _ hk _
  exact law_upto T (by kernel_rfl) laidOut (by kernel_rfl) rfl rfl Try.underlying4 (fun ds h => by
    match ds, h with
    | [d0, d1], _ => rfl) walk' W base args ds gs before hval hW hk

theorem over : Rows.diskPlaysUptoRow.holds Try.pinned (Rows.OpenSpec.upto Rows.diskPlaysSpec) :=
  OpenClaim.holds_of_cond 5 Try.f5 rfl rfl rfl rfl rfl rfl rfl ⟨rfl, rfl, rfl, rfl, rfl⟩ rfl rfl rfl rfl rfl (by kernel_rfl) Try.func5 (by kernel_rfl)
    (of_decide_eq_true (by kernel_rfl)) (by unfold Func.isWrapper; first | (rw [if_pos (by decide +kernel)]; kernel_rfl) | (rw [if_neg (by decide +kernel)]; exact ⟨rfl, rfl⟩))
    (fun os started H enc _ F => lifted os started H enc F)

theorem proved : Rows.DiskPlaysUptoSaid := over
#print axioms proved
end Go.Proofs.Ytibhkkfbhbnmeaa.diskPlays
