/-
  Interf: commands as arguments; what Attr hands back may be written.
-/
import Derived.Test.YtongefjadoidbaaInt14
import Derived.Test.YtongefjadoidbaaIntArg2
namespace Go.Proofs.Ytongefjadoidbaa
open Go.RowKit
set_option maxRecDepth 20000
set_option linter.unusedVariables false

/-- A command. -/
structure Cm where
  kind : Int
  home : List UInt8
  data : Value
def cmCells (c : Cm) : List Value := [.int .i64 c.kind, .string ⟨c.home.toArray⟩, c.data]
theorem cms_of {w : World} : ∀ (l : List (Int × List UInt8 × List Int × Unit)) (vss : List (List Value)), vss.length = l.length →
    (∀ (j : Nat) v x, vss[j]? = some v → l[j]? = some x → v.length = 3 ∧ Rd w (.pair (.int .i64) (.pair .str (.pair (.slice (.int .u8)) .unit))) v x) →
    ∃ cs : List Cm, cs.length = l.length ∧ vss = cs.map cmCells ∧ ∀ i ∈ cs, ∃ d l c, i.data = .slice d l c
  | [], [], _, _ => ⟨[], rfl, rfl, by simp⟩
  | [], _ :: _, h, _ => by simp at h
  | _ :: _, [], h, _ => by simp at h
  | x :: l, v :: vss, h, hr => by
    obtain ⟨cs, h1, h2, h3⟩ := cms_of l vss (by simpa using h) (fun j v x hv hx => hr (j + 1) v x hv hx)
    obtain ⟨-, hc⟩ := hr 0 v x rfl rfl
    obtain ⟨c7, c8, rfl, -, ⟨rfl, -⟩, c9, c10, rfl, -, ⟨rfl, -⟩, c11, c12, rfl, -, ⟨a, cp, us, rfl, -⟩, rfl⟩ := hc
    refine ⟨⟨x.1, x.2.1, .slice a x.2.2.1.length cp⟩ :: cs, by simp [h1], ?_, ?_⟩
    · rw [List.map_cons, h2]; rfl
    · intro i hi
      rcases List.mem_cons.1 hi with rfl | hi
      · exact ⟨_, _, _, rfl⟩
      · exact h3 i hi
theorem cmds_of {W : World} {v : Value} {l : List TCmd.El} (h : Rd W (.slice TCmd) [v] l) : ∃ (a : Option Addr) (c : Nat) (cs : List Cm), v = .slice a cs.length c ∧ cs.length = l.length ∧ RowAt W a (cs.flatMap cmCells) ∧ (∀ i ∈ cs, ∃ d l c, i.data = .slice d l c) ∧ cs.length ≤ c ∧ c ≤ maxLen := by
  obtain ⟨a, cap, vss, hv, h0, h1, h2, hl, hr, hx⟩ := h
  obtain ⟨cs, e1, e2, e3⟩ := cms_of l vss hl (fun j v x hv hx' => hx j v x hv hx')
  simp only [List.cons.injEq, and_true] at hv
  subst hv
  refine ⟨a, cap, cs, by rw [e1], e1, ?_, e3, by omega, h2⟩
  rw [e2] at hr
  exact hr
theorem row_cm {w : World} {a : Option Addr} {cs : List Cm} (h : RowAt w a (cs.flatMap cmCells)) {j : Nat} (hj : j < cs.length) : ∃ b o, a = some ⟨b, o, none⟩ ∧
    w.cell? ⟨b, o + j * 3, none⟩ = some (.int .i64 cs[j].kind) ∧ w.cell? ⟨b, o + j * 3 + 1, none⟩ = some (.string ⟨cs[j].home.toArray⟩) ∧ w.cell? ⟨b, o + j * 3 + 2, none⟩ = some cs[j].data := by
  have key : ∀ i v, (cmCells cs[j])[i]? = some v → i < 3 → ∃ b o, a = some ⟨b, o, none⟩ ∧ w.cell? ⟨b, o + (j * 3 + i), none⟩ = some v := fun i v hv hi =>
    h (j * 3 + i) v (by rw [flat_at (c := 3) (fun x => rfl) cs j i hj hi]; exact hv)
  obtain ⟨b, o, rfl, h0⟩ := key 0 _ rfl (by decide)
  refine ⟨b, o, rfl, h0, ?_⟩
  have key2 : ∀ i v, (cmCells cs[j])[i]? = some v → i < 3 → w.cell? ⟨b, o + j * 3 + i, none⟩ = some v := fun i v hv hi => by
    obtain ⟨b', o', e, h1⟩ := key i v hv hi
    simp only [Option.some.injEq, Addr.mk.injEq, and_true] at e
    obtain ⟨rfl, rfl⟩ := e
    rw [Nat.add_assoc]; exact h1
  exact ⟨key2 1 _ rfl (by decide), key2 2 _ rfl (by decide)⟩

theorem atL_len' (n : Nat) (k : Int) (h : List UInt8) (S : List It) : (atL n k h S).length ≤ n := by
  unfold atL; split
  · rw [depsL_len]; exact Nat.le_refl _
  · exact Nat.zero_le _
/-- m ints in a block of our own. -/
def Ours (w : World) (b : Nat) (a : Option Addr) (m : Nat) : Prop := m = 0 ∨ ∃ g cu, a = some ⟨g, 0, none⟩ ∧ ObjAt w g 3 cu ∧ m ≤ cu.size ∧ b ≤ g
theorem Ours.below {w w' : World} {b : Nat} {a : Option Addr} {m : Nat} (h : Ours w b a m) (hb : Below w.heap.size w w') : Ours w' b a m := by
  rcases h with h | ⟨g, cu, h1, h2, h3⟩
  · exact .inl h
  · exact .inr ⟨g, cu, h1, h2.below hb, h3⟩
theorem idx_attr3 (x : IdxP) (n : Nat) (S : List It) (k : Int) (h : List UInt8) (d : Value) (w : World) (hx : IdxAt w x n S) :
    Calls Try.prog 9 #[.pointer (some ⟨x.ib, 0, none⟩), .agg #[.int .i64 k, .string ⟨h.toArray⟩, d]] w fun e w' => ∃ a c, e = .returned (.tuple #[.int .i64 (atS k h S), .slice a (atL n k h S).length c, .int .i64 (atE k)]) ∧ IsInts w' (.slice a (atL n k h S).length c) (atL n k h S) ∧ Ours w' w.heap.size a (atL n k h S).length ∧ Below w.heap.size w w' := by
  refine (idx_attr x n S k h d w hx).mono ?_
  rintro e w' ⟨hb, ⟨hk, rfl⟩ | ⟨hk, v, rfl, hv⟩⟩
  · have e1 : atL n k h S = [] := by unfold atL; rw [if_neg hk]
    rw [e1]
    refine ⟨none, 0, ?_, ?_, .inl rfl, hb⟩
    · unfold atS atE; rw [if_neg hk, if_neg hk]; rfl
    · exact ⟨none, 0, rfl, by intro j v hv; simp at hv, fun _ => rfl, Nat.le_refl _, Nat.zero_le _⟩
  · have e1 : atL n k h S = depsL n (interL k h S) := by unfold atL; rw [if_pos hk]
    rw [e1]
    have hi := hv.ints
    obtain ⟨g, cap, cu, he, ho, hc, -, -, hg, -⟩ := hv
    obtain rfl : v = .slice (some ⟨g, 0, none⟩) (depsL n (interL k h S)).length cap := by injection he
    exact ⟨_, cap, by unfold atS atE; rw [if_pos hk, if_pos hk], hi, .inr ⟨g, cu, rfl, ho, hc.1, hg⟩, hb⟩
end Go.Proofs.Ytongefjadoidbaa
