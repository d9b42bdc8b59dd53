/-
  Disk: the calls as arguments.
-/
import Derived.Test.YtibhkkfbhbnmeaaArgs
import Derived.Test.YtibhkkfbhbnmeaaDskG
namespace Go.Proofs.Ytibhkkfbhbnmeaa
open Go.RowKit
set_option maxRecDepth 20000
set_option linter.unusedVariables false

/-- A call. -/
structure Oq where
  kind : Int
  a : List UInt8
  b : List UInt8
  data : Value
  dl : List UInt8
  ns : List (List UInt8)
  na : Option Addr
  nc : Nat
  cuts : List Int
  ca : Option Addr
  cc : Nat
def oqCells (o : Oq) : List Value := [.int .i64 o.kind, .string ⟨o.a.toArray⟩, .string ⟨o.b.toArray⟩, o.data, .slice o.na o.ns.length o.nc, .slice o.ca o.cuts.length o.cc]
structure OqAt (w : World) (o : Oq) : Prop where
  data : IsBytes w o.data o.dl
  names : RowAt w o.na (o.ns.map fun s => Value.string ⟨s.toArray⟩)
  nn : o.na = none → o.nc = 0
  n1 : o.ns.length ≤ o.nc
  n2 : o.nc ≤ maxLen
  cuts : RowAt w o.ca (o.cuts.map (Value.int .i64))
  c1 : o.cuts.length ≤ o.cc
  c2 : o.cc ≤ maxLen
theorem OqAt.below {w w' : World} {o : Oq} (h : OqAt w o) (hb : Below w.heap.size w w') : OqAt w' o :=
  ⟨h.data.below hb, h.names.below hb, h.nn, h.n1, h.n2, h.cuts.below hb, h.c1, h.c2⟩
def TOp : Ty := .pair (.int .i64) (.pair .str (.pair .str (.pair (.slice (.int .u8)) (.pair (.slice .str) (.pair (.slice (.int .i64)) .unit)))))
theorem names_of_rd {w : World} {v : Value} {l : List (List UInt8)} (h : Rd w (.slice .str) [v] l) : ∃ a cap, v = .slice a l.length cap ∧ (a = none → cap = 0) ∧ l.length ≤ cap ∧ cap ≤ maxLen ∧ RowAt w a (l.map fun s => Value.string ⟨s.toArray⟩) := by
  obtain ⟨a, cap, rfl, h0, h1, h2, hr, _⟩ := rd_slice1 (e := .str) (fun s => Value.string ⟨s.toArray⟩) (fun c x hx => hx.1) h
  exact ⟨a, cap, rfl, h0, h1, h2, hr⟩
theorem ops_of {w : World} : ∀ (l : List TOp.El) (vss : List (List Value)), vss.length = l.length →
    (∀ (j : Nat) v x, vss[j]? = some v → l[j]? = some x → v.length = 6 ∧ Rd w TOp v x) →
    ∃ os : List Oq, os.length = l.length ∧ vss = os.map oqCells ∧ (∀ o ∈ os, OqAt w o) ∧ ∀ o ∈ os, ∃ x ∈ l, o.dl.length = x.2.2.2.1.length ∧ o.ns.length = x.2.2.2.2.1.length ∧ o.cuts.length = x.2.2.2.2.2.1.length
  | [], [], _, _ => ⟨[], rfl, rfl, by simp, by simp⟩
  | [], _ :: _, h, _ => by simp at h
  | _ :: _, [], h, _ => by simp at h
  | x :: l, v :: vss, h, hr => by
    obtain ⟨os, h1, h2, h3, h4⟩ := ops_of l vss (by simpa using h) (fun j v x hv hx => hr (j + 1) v x hv hx)
    obtain ⟨-, hc⟩ := hr 0 v x rfl rfl
    obtain ⟨c1, c2, rfl, -, ⟨rfl, -⟩, c3, c4, rfl, -, ⟨rfl, -⟩, c5, c6, rfl, -, ⟨rfl, -⟩, c7, c8, rfl, l7, hd, c9, c10, rfl, l9, hn, c11, c12, rfl, l11, hk, rfl⟩ := hc
    obtain ⟨d, rfl⟩ : ∃ d, c7 = [d] := List.length_eq_one_iff.1 l7
    obtain ⟨n, rfl⟩ : ∃ d, c9 = [d] := List.length_eq_one_iff.1 l9
    obtain ⟨k, rfl⟩ : ∃ d, c11 = [d] := List.length_eq_one_iff.1 l11
    obtain ⟨bs, b1, b2, -⟩ := bytes_of_rd hd
    obtain ⟨na, nc, rfl, n0, n1, n2, n3⟩ := names_of_rd hn
    obtain ⟨ca, cc, rfl, -, k1, k2, k3⟩ := ints_of_rd hk
    refine ⟨⟨x.1, x.2.1, x.2.2.1, d, bs, x.2.2.2.2.1, na, nc, x.2.2.2.2.2.1, ca, cc⟩ :: os, by simp [h1], ?_, ?_, ?_⟩
    · rw [List.map_cons, h2]; rfl
    · intro o ho
      rcases List.mem_cons.1 ho with rfl | ho
      · exact ⟨b2, n3, n0, n1, n2, k3, k1, k2⟩
      · exact h3 o ho
    · intro o ho
      rcases List.mem_cons.1 ho with rfl | ho
      · exact ⟨x, List.mem_cons_self .., b1, rfl, rfl⟩
      · obtain ⟨y, hy, hz⟩ := h4 o ho
        exact ⟨y, List.mem_cons_of_mem _ hy, hz⟩
theorem script_of {W : World} {v : Value} {l : List TOp.El} (h : Rd W (.slice TOp) [v] l) : ∃ (a : Option Addr) (c : Nat) (os : List Oq), v = .slice a os.length c ∧ os.length = l.length ∧ RowAt W a (os.flatMap oqCells) ∧ (∀ o ∈ os, OqAt W o) ∧ (∀ o ∈ os, ∃ x ∈ l, o.dl.length = x.2.2.2.1.length ∧ o.ns.length = x.2.2.2.2.1.length ∧ o.cuts.length = x.2.2.2.2.2.1.length) ∧ os.length ≤ c ∧ c ≤ maxLen := by
  obtain ⟨a, cap, vss, hv, h0, h1, h2, hl, hr, hx⟩ := h
  obtain ⟨os, e1, e2, e3, e4⟩ := ops_of l vss hl (fun j v x hv hx' => hx j v x hv hx')
  simp only [List.cons.injEq, and_true] at hv
  subst hv
  refine ⟨a, cap, os, by rw [e1], e1, ?_, e3, e4, by omega, h2⟩
  rw [e2] at hr
  exact hr
end Go.Proofs.Ytibhkkfbhbnmeaa
