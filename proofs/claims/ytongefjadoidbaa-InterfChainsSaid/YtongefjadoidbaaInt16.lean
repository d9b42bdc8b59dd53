/-
  Interf: what the chain of InterfChains holds.
-/
import Derived.Test.YtongefjadoidbaaInt15
import Derived.Deep.RegionHeld3
import Derived.Deep.DrawnRows
namespace Go.Proofs.Ytongefjadoidbaa
open Go.RowKit
set_option maxRecDepth 20000
set_option linter.unusedVariables false

def idC (i : It) : List Value := [.int .i64 i.rep, .int .i64 i.num]
def cmC (i : It) : List Value := [.int .i64 i.kind, .string ⟨i.home.toArray⟩, i.data]
def sqC (i : It) : List Value := [.int .i64 i.seq]
/-- What the chain holds. -/
structure Ch (w0 w : World) (nb n ibx nx : Nat) (x : IdxP) (T : List It) (cnt : List Int) (j : Nat) (vi vs va : Value) : Prop where
  ib : x.ib = ibx
  idx : IdxAt w x n T
  len : T.length ≤ j
  seqs : ∀ i ∈ T, i.seq ≤ T.length
  dat : ∀ i ∈ T, ∃ d l c, i.data = .slice d l c
  nxt : ∃ cu, ObjAt w nx 3 cu ∧ Cells cu cnt
  cl : cnt.length = n
  cb : ∀ c ∈ cnt, 0 ≤ c ∧ c ≤ j
  nxf : ¬ x.Has nx
  oi : w.ownsRow nb 37 2 vi T.length (T.flatMap idC)
  os : w.ownsRow nb 3 1 vs T.length (T.flatMap sqC)
  oa : w.ownsRow nb 25 3 va T.length (T.flatMap cmC)
  fi : ∀ g, vi.ownBlock = some g → ¬ x.Has g
  fs : ∀ g, vs.ownBlock = some g → ¬ x.Has g
  fa : ∀ g, va.ownBlock = some g → ¬ x.Has g
  fsn : vs.ownBlock ≠ some nx
  xb : ∀ k, x.Has k → nb ≤ k
  nxb : nb ≤ nx
  bel : Below nb w0 w
  n0 : nb ≤ w.heap.size
theorem Ch.below {w0 w w' : World} {nb n ibx nx : Nat} {x : IdxP} {T : List It} {cnt : List Int} {j : Nat} {vi vs va : Value} (h : Ch w0 w nb n ibx nx x T cnt j vi vs va) (hb : Below w.heap.size w w') : Ch w0 w' nb n ibx nx x T cnt j vi vs va :=
  { h with
    idx := h.idx.below hb
    nxt := by obtain ⟨cu, h1, h2⟩ := h.nxt; exact ⟨cu, h1.below hb, h2⟩
    oi := owns_below h.oi hb
    os := owns_below h.os hb
    oa := owns_below h.oa hb
    bel := h.bel.trans (hb.mono h.n0)
    n0 := Nat.le_trans h.n0 hb.size }
theorem Ch.skip {w0 w : World} {nb n ibx nx : Nat} {x : IdxP} {T : List It} {cnt : List Int} {j : Nat} {vi vs va : Value} (h : Ch w0 w nb n ibx nx x T cnt j vi vs va) : Ch w0 w nb n ibx nx x T cnt (j + 1) vi vs va :=
  { h with
    len := Nat.le_succ_of_le h.len
    cb := fun c hc => ⟨(h.cb c hc).1, by have := (h.cb c hc).2; omega⟩ }
theorem Ch.set {w0 w : World} {nb n ibx nx : Nat} {x : IdxP} {T : List It} {cnt : List Int} {j : Nat} {vi vs va : Value} (h : Ch w0 w nb n ibx nx x T cnt j vi vs va) (r : Nat) (v : Int) (hv : 0 ≤ v ∧ v ≤ (j : Int) + 1) :
    Ch w0 (w.setCell ⟨nx, r, none⟩ (.int .i64 v)) nb n ibx nx x T (cnt.set r v) (j + 1) vi vs va := by
  have hk : KeptS (fun q => q = nx) w (w.setCell ⟨nx, r, none⟩ (.int .i64 v)) := KeptS.set w ⟨nx, r, none⟩ _ rfl
  obtain ⟨cu, h1, h2⟩ := h.nxt
  have hoi : vi.ownBlock ≠ some nx := fun e => by
    rcases h.oi.2 with ⟨rfl, _⟩ | ⟨g, cap, cur, rfl, hbb, hg, r⟩
    · cases e
    · simp only [Value.ownBlock, Option.some.injEq] at e
      subst e
      exact ObjAt.ne_obj (t := 37) (t' := 3) (by exact hg) h1 (by decide) rfl
  have hoa : va.ownBlock ≠ some nx := fun e => by
    rcases h.oa.2 with ⟨rfl, _⟩ | ⟨g, cap, cur, rfl, hbb, hg, r⟩
    · cases e
    · simp only [Value.ownBlock, Option.some.injEq] at e
      subst e
      exact ObjAt.ne_obj (t := 25) (t' := 3) (by exact hg) h1 (by decide) rfl
  exact
    { h with
      idx := h.idx.keptS hk (fun k hk e => h.nxf (e ▸ hk))
      len := Nat.le_succ_of_le h.len
      nxt := ⟨_, h1.set r (.int .i64 v), h2.set r v⟩
      cl := by rw [List.length_set]; exact h.cl
      cb := fun c hc => by
        rcases List.mem_or_eq_of_mem_set hc with hc | rfl
        · have := h.cb c hc; omega
        · omega
      oi := owns_keptS h.oi hk (fun g hg e => hoi (e ▸ hg))
      os := owns_keptS h.os hk (fun g hg e => h.fsn (e ▸ hg))
      oa := owns_keptS h.oa hk (fun g hg e => hoa (e ▸ hg))
      bel := h.bel.trans (hk.below (fun q hq => by rw [hq]; exact h.nxb) h.n0)
      n0 := Nat.le_trans h.n0 hk.size }

theorem cell_below {w w' : World} {p : Addr} {v : Value} (h : w.cell? p = some v) (hb : Below w.heap.size w w') : w'.cell? p = some v := (KeptS.of_below (S := fun _ => False) hb).cell h (fun h => h)
theorem row_cell {f : It → List Value} {c : Nat} (hc : ∀ x, (f x).length = c) {w : World} {a : Option Addr} {T : List It} (h : RowAt w a (T.flatMap f)) {j : Nat} (hj : j < T.length) (i : Nat) (v : Value) (hv : (f T[j])[i]? = some v) (hi : i < c) : ∃ b o, a = some ⟨b, o, none⟩ ∧ w.cell? ⟨b, o + (j * c + i), none⟩ = some v :=
  h (j * c + i) v (by rw [flat_at hc T j i hj hi]; exact hv)
theorem row_all {w : World} {a : Option Addr} {T : List It} (h : RowAt w a (T.flatMap cmC)) {j : Nat} (hj : j < T.length) : ∃ b o, a = some ⟨b, o, none⟩ ∧
    w.cell? ⟨b, o + j * 3, none⟩ = some (.int .i64 T[j].kind) ∧ w.cell? ⟨b, o + j * 3 + 1, none⟩ = some (.string ⟨T[j].home.toArray⟩) ∧ w.cell? ⟨b, o + j * 3 + 2, none⟩ = some T[j].data := by
  obtain ⟨b, o, rfl, h0⟩ := row_cell (c := 3) (fun _ => rfl) h hj 0 _ rfl (by decide)
  refine ⟨b, o, rfl, h0, ?_⟩
  have key2 : ∀ i v, (cmC T[j])[i]? = some v → i < 3 → w.cell? ⟨b, o + j * 3 + i, none⟩ = some v := fun i v hv hi => by
    obtain ⟨b', o', e, h1⟩ := row_cell (c := 3) (fun _ => rfl) h hj i v hv hi
    simp only [Option.some.injEq, Addr.mk.injEq, and_true] at e
    obtain ⟨rfl, rfl⟩ := e
    rw [Nat.add_assoc]; exact h1
  exact ⟨key2 1 _ rfl (by decide), key2 2 _ rfl (by decide)⟩
theorem row_id {w : World} {a : Option Addr} {T : List It} (h : RowAt w a (T.flatMap idC)) {j : Nat} (hj : j < T.length) : ∃ b o, a = some ⟨b, o, none⟩ ∧
    w.cell? ⟨b, o + j * 2, none⟩ = some (.int .i64 T[j].rep) ∧ w.cell? ⟨b, o + j * 2 + 1, none⟩ = some (.int .i64 T[j].num) := by
  obtain ⟨b, o, rfl, h0⟩ := row_cell (c := 2) (fun _ => rfl) h hj 0 _ rfl (by decide)
  refine ⟨b, o, rfl, h0, ?_⟩
  obtain ⟨b', o', e, h1⟩ := row_cell (c := 2) (fun _ => rfl) h hj 1 _ rfl (by decide)
  simp only [Option.some.injEq, Addr.mk.injEq, and_true] at e
  obtain ⟨rfl, rfl⟩ := e
  rw [Nat.add_assoc]; exact h1
theorem row_sq {w : World} {a : Option Addr} {T : List It} (h : RowAt w a (T.flatMap sqC)) {j : Nat} (hj : j < T.length) : ∃ b o, a = some ⟨b, o, none⟩ ∧ w.cell? ⟨b, o + j, none⟩ = some (.int .i64 T[j].seq) := by
  obtain ⟨b, o, rfl, h0⟩ := row_cell (c := 1) (fun _ => rfl) h hj 0 _ rfl (by decide)
  rw [Nat.mul_one] at h0
  exact ⟨b, o, rfl, h0⟩

/-- A row of one element, made after nb. -/
def New1 (nb : Nat) (w : World) (v : Value) (cs : List Value) : Prop := ∃ p, v = .slice (some ⟨p, 0, none⟩) 1 1 ∧ nb ≤ p ∧ RowAt w (some ⟨p, 0, none⟩) cs
def Nb (nb : Nat) (w : World) : Prop := nb ≤ w.heap.size
theorem Nb.alloc {nb : Nat} {w : World} (h : Nb nb w) (o : Obj) : Nb nb (w.alloc o) := Nat.le_trans h (below_new o).size
theorem Nb.drew {nb : Nat} {w : World} (h : Nb nb w) : Nb nb w.drew := h
theorem Nb.grown {nb : Nat} {w w' : World} {ob : Option Nat} (h : Nb nb w) (hg : w.grownBy w' ob) : Nb nb w' := Nat.le_trans h hg.size
theorem New1.mk {nb p : Nat} {w : World} {cs : Array Value} {t : TypeId} (h : Nb nb w) (hp : p = w.heap.size) : New1 nb (w.alloc (.cells cs t)) (.slice (some ⟨p, 0, none⟩) 1 1) cs.toList := ⟨_, rfl, by rw [hp]; exact h, by rw [hp]; exact RowAt.new _ _ _ _⟩
theorem New1.alloc {nb : Nat} {w : World} {v : Value} {cs : List Value} (h : New1 nb w v cs) (o : Obj) : New1 nb (w.alloc o) v cs := by
  obtain ⟨p, h1, h2, h3⟩ := h
  exact ⟨p, h1, h2, h3.below (below_new o)⟩
theorem New1.drew {nb : Nat} {w : World} {v : Value} {cs : List Value} (h : New1 nb w v cs) : New1 nb w.drew v cs := h
theorem New1.grown {nb : Nat} {w w' : World} {ob : Option Nat} {v : Value} {cs : List Value} (hg : w.grownBy w' ob) (hob : ∀ g, ob = some g → g < nb) (h : New1 nb w v cs) : New1 nb w' v cs := by
  obtain ⟨p, h1, h2, h3⟩ := h
  exact ⟨p, h1, h2, h3.keptS (KeptS.of_grown hg) (fun ad e hb => by
    cases e
    have := hob p hb.symm
    omega)⟩
/-- 'append(v, x)', x one new element, as a step of a region that draws. -/
theorem step_app1 {P : Program} {w : World} {ops : Array Oper} {o : Oper} {a : Act} {K : Act → World → Prop} {Q : Exit → Act → World → Prop} {E : Prop} (hgd : o.guard = Option.none) (s x : Operand) (t : TypeId)
    (ho : o.op = .call { callee := .builtin .append, args := #[s, x], argTypes := #[t, t] })
    (base nb : Nat) (e : TypeId) {z : Value} {size bytes : Nat} (ht : P.underlying t = some (.slice e)) (hinfo : (P.info? e).map (fun i => (i.zero, i.size, i.bytes)) = some (some z, size, bytes)) (hzs : z.cells.size = size) (hsz : 0 < size)
    (v : Value) (n : Nat) (xs news : List Value) (hs : a.eval s = v) (hown : w.ownsRow base e size v n xs)
    (hx : New1 nb w (a.eval x) news) (hl : news.length = size) (h1 : ∀ u ∈ news, u.oneCell' = true) (h63 : n + 1 ≤ maxLen) (hlen : (n + 1) * bytes ≤ 140737488355328) (hbase : base ≤ w.heap.size)
    (h : ∀ g cap w1, w1.ownsRow base e size (.slice (some ⟨g, 0, none⟩) (n + 1) cap) (n + 1) (xs ++ news) → w.grownBy w1 v.ownBlock → (v.ownBlock = some g ∨ g = w.heap.size) → K (a.put o.dst (.slice (some ⟨g, 0, none⟩) (n + 1) cap)) w1) :
    if Region.wanted o (yielded ops a.tmps) = true then Oper.wp P o a w K Q else E := by
  obtain ⟨p, hp, hnb, hr⟩ := hx
  exact step_app_rec hgd s x t ho base e ht hinfo hzs hsz v n xs news ⟨p, 0, none⟩ 1 hs hown hp hl hr h1 h63 hlen hbase h
/-- The cells that the last statement of a round reads. -/
abbrev S5 (kb ka : Nat) (k : Int) (h : List UInt8) (d : Value) (r nu : Int) (w : World) : Prop :=
  w.cell? ⟨kb, 0, none⟩ = some (.int .i64 k) ∧ w.cell? ⟨kb, 1, none⟩ = some (.string ⟨h.toArray⟩) ∧ w.cell? ⟨kb, 2, none⟩ = some d ∧ w.cell? ⟨ka, 0, none⟩ = some (.int .i64 r) ∧ w.cell? ⟨ka, 1, none⟩ = some (.int .i64 nu)
theorem S5.keptS {S : Nat → Prop} {kb ka : Nat} {k : Int} {h : List UInt8} {d : Value} {r nu : Int} {w w' : World} (hs : S5 kb ka k h d r nu w) (hk : KeptS S w w') (h1 : ¬ S kb) (h2 : ¬ S ka) : S5 kb ka k h d r nu w' :=
  ⟨hk.cell hs.1 h1, hk.cell hs.2.1 h1, hk.cell hs.2.2.1 h1, hk.cell hs.2.2.2.1 h2, hk.cell hs.2.2.2.2 h2⟩
theorem S5.alloc {kb ka : Nat} {k : Int} {h : List UInt8} {d : Value} {r nu : Int} {w : World} (hs : S5 kb ka k h d r nu w) (o : Obj) : S5 kb ka k h d r nu (w.alloc o) :=
  hs.keptS (S := fun _ => False) (KeptS.of_below (below_new o)) (fun h => h) (fun h => h)
theorem S5.drew {kb ka : Nat} {k : Int} {h : List UInt8} {d : Value} {r nu : Int} {w : World} (hs : S5 kb ka k h d r nu w) : S5 kb ka k h d r nu w.drew := hs
/-- The old rows. -/
def SS (vi vs va : Value) (q : Nat) : Prop := vi.ownBlock = some q ∨ vs.ownBlock = some q ∨ va.ownBlock = some q
theorem KS.alloc {S : Nat → Prop} {w w' : World} (h : KeptS S w w') (o : Obj) : KeptS S w (w'.alloc o) := h.next (KeptS.of_below (below_new o))
theorem KS.drew {S : Nat → Prop} {w w' : World} (h : KeptS S w w') : KeptS S w w'.drew := h.next (KeptS.of_below (below_drewN' 1))
theorem KS.grown {S : Nat → Prop} {w w' w'' : World} {ob : Option Nat} (h : KeptS S w w') (hg : w'.grownBy w'' ob) (hob : ∀ g, ob = some g → S g) : KeptS S w w'' := h.trans (KeptS.of_grown hg) (fun q _ hq => hob q hq.symm)
/-- Rows of two types lie apart. -/
theorem own_apart {w : World} {b1 b2 : Nat} {e1 e2 : TypeId} {s1 s2 n1 n2 : Nat} {v1 v2 : Value} {x1 x2 : List Value} (h1 : w.ownsRow b1 e1 s1 v1 n1 x1) (h2 : w.ownsRow b2 e2 s2 v2 n2 x2) (hne : e1 ≠ e2) : v1.ownBlock = none ∨ v1.ownBlock ≠ v2.ownBlock := by
  rcases h1.2 with ⟨rfl, _⟩ | ⟨g, cap, cur, rfl, hbb, hg, r⟩
  · exact .inl rfl
  · refine .inr fun e => ?_
    rcases h2.2 with ⟨rfl, _⟩ | ⟨g', cap', cur', rfl, hbb', hg', r'⟩
    · cases e
    · simp only [Value.ownBlock, Option.some.injEq] at e
      subst e
      exact ObjAt.ne_obj (t := e1) (t' := e2) (by exact hg) (by exact hg') hne rfl
theorem Ch.next {w0 w6 w7 w8 : World} {nb n ibx nx : Nat} {x x' : IdxP} {T : List It} {it : It} {cnt : List Int} {j : Nat} {vi vs va vi' vs' va' : Value} (hc : Ch w0 w6 nb n ibx nx x T cnt j vi vs va)
    (hx' : IdxAt w7 x' n (T ++ [it])) (hib : x'.ib = x.ib) (hnew : ∀ k, x'.Has k → x.Has k ∨ w6.heap.size ≤ k) (hk : KeptS x.Has w6 w7) (hks : KeptS (SS vi vs va) w7 w8)
    (oi' : w8.ownsRow nb 37 2 vi' (T.length + 1) (T.flatMap idC ++ idC it)) (os' : w8.ownsRow nb 3 1 vs' (T.length + 1) (T.flatMap sqC ++ sqC it)) (oa' : w8.ownsRow nb 25 3 va' (T.length + 1) (T.flatMap cmC ++ cmC it))
    (hgi : ∀ g, vi'.ownBlock = some g → vi.ownBlock = some g ∨ w7.heap.size ≤ g) (hgs : ∀ g, vs'.ownBlock = some g → vs.ownBlock = some g ∨ w7.heap.size ≤ g) (hga : ∀ g, va'.ownBlock = some g → va.ownBlock = some g ∨ w7.heap.size ≤ g)
    (hseq : it.seq ≤ T.length + 1) (hlen : T.length + 1 ≤ j) (hdat : ∃ d l c, it.data = .slice d l c) : Ch w0 w8 nb n ibx nx x' (T ++ [it]) cnt j vi' vs' va' := by
  have old : ∀ {v : Value} {e : TypeId} {s : Nat} {xs : List Value} {m : Nat}, w6.ownsRow nb e s v m xs → (∀ g, v.ownBlock = some g → ¬ x.Has g) → ∀ g, v.ownBlock = some g → ¬ x'.Has g := fun ho hf g hg hh => by
    rcases hnew g hh with h | h
    · exact hf g hg h
    · have := owns_new ho g hg; omega
  have hi := old hc.oi hc.fi
  have hs := old hc.os hc.fs
  have ha := old hc.oa hc.fa
  have hnx : nx < w6.heap.size := by obtain ⟨cu, q, -⟩ := hc.nxt; exact q.lt
  have hl7 : w6.heap.size ≤ w7.heap.size := hk.size
  have hxl : ∀ k, x'.Has k → k < w7.heap.size := fun k hk => hx'.g.lt hk
  have hoi : vi.ownBlock ≠ some nx := fun e => by
    obtain ⟨cu, h1, -⟩ := hc.nxt
    rcases hc.oi.2 with ⟨rfl, _⟩ | ⟨g, cap, cur, rfl, hbb, hg, r⟩
    · cases e
    · simp only [Value.ownBlock, Option.some.injEq] at e
      subst e
      exact ObjAt.ne_obj (t := 37) (t' := 3) (by exact hg) h1 (by decide) rfl
  have hoa : va.ownBlock ≠ some nx := fun e => by
    obtain ⟨cu, h1, -⟩ := hc.nxt
    rcases hc.oa.2 with ⟨rfl, _⟩ | ⟨g, cap, cur, rfl, hbb, hg, r⟩
    · cases e
    · simp only [Value.ownBlock, Option.some.injEq] at e
      subst e
      exact ObjAt.ne_obj (t := 25) (t' := 3) (by exact hg) h1 (by decide) rfl
  exact
    { ib := hib.trans hc.ib
      idx := hx'.keptS hks (fun k hk h => by
        rcases h with h | h | h
        · exact hi k h hk
        · exact hs k h hk
        · exact ha k h hk)
      len := by simpa using hlen
      seqs := fun i hi => by
        rw [List.length_append, List.length_singleton]
        rcases List.mem_append.1 hi with h | h
        · have := hc.seqs i h; omega
        · rw [List.mem_singleton.1 h]; have := hseq; omega
      dat := fun i hi => by
        rcases List.mem_append.1 hi with h | h
        · exact hc.dat i h
        · rw [List.mem_singleton.1 h]; exact hdat
      nxt := by
        obtain ⟨cu, h1, h2⟩ := hc.nxt
        refine ⟨cu, (h1.keptS hk hc.nxf).keptS hks (fun h => ?_), h2⟩
        rcases h with h | h | h
        · exact hoi h
        · exact hc.fsn h
        · exact hoa h
      cl := hc.cl
      cb := hc.cb
      nxf := fun h => by
        rcases hnew nx h with h | h
        · exact hc.nxf h
        · omega
      oi := by rw [List.length_append, List.flatMap_append]; simpa using oi'
      os := by rw [List.length_append, List.flatMap_append]; simpa using os'
      oa := by rw [List.length_append, List.flatMap_append]; simpa using oa'
      fi := fun g hg hh => by
        rcases hgi g hg with h | h
        · exact hi g h hh
        · have := hxl g hh; omega
      fs := fun g hg hh => by
        rcases hgs g hg with h | h
        · exact hs g h hh
        · have := hxl g hh; omega
      fa := fun g hg hh => by
        rcases hga g hg with h | h
        · exact ha g h hh
        · have := hxl g hh; omega
      fsn := fun e => by
        rcases hgs nx e with h | h
        · exact hc.fsn h
        · omega
      xb := fun k hk => by
        rcases hnew k hk with h | h
        · exact hc.xb k h
        · have := hc.n0; omega
      nxb := hc.nxb
      bel := hc.bel.trans ((hk.below (fun q hq => hc.xb q hq) hc.n0).trans (hks.below (fun q hq => by
        rcases hq with h | h | h
        · exact (hc.oi.lt q h).1
        · exact (hc.os.lt q h).1
        · exact (hc.oa.lt q h).1) (Nat.le_trans hc.n0 hl7)))
      n0 := Nat.le_trans hc.n0 (Nat.le_trans hl7 hks.size) }
theorem seqMax_upto {L : List It} {m : Int} (h0 : 0 ≤ m) (h : ∀ i ∈ L, i.seq ≤ m) : seqMax L ≤ m := by
  induction L with
  | nil => exact h0
  | cons i l ih =>
    have h1 := h i (List.mem_cons_self ..)
    have h2 := ih (fun i hi => h i (List.mem_cons_of_mem _ hi))
    simp only [seqMax]; omega
theorem S5.grown {kb ka : Nat} {k : Int} {h : List UInt8} {d : Value} {r nu : Int} {w w' : World} {ob : Option Nat} (hs : S5 kb ka k h d r nu w) (hg : w.grownBy w' ob) (h1 : ob ≠ some kb) (h2 : ob ≠ some ka) : S5 kb ka k h d r nu w' :=
  hs.keptS (KeptS.of_grown hg) (fun e => h1 e.symm) (fun e => h2 e.symm)
theorem infoID : ∃ z, (Try.prog.info? 37).map (fun i => (i.zero, i.size, i.bytes)) = some (some z, 2, 16) ∧ z.cells.size = 2 := info_of (by kernel_rfl) (by kernel_rfl)
theorem infoCmd : ∃ z, (Try.prog.info? 25).map (fun i => (i.zero, i.size, i.bytes)) = some (some z, 3, 48) ∧ z.cells.size = 3 := info_of (by kernel_rfl) (by kernel_rfl)
theorem Own.drewN {w : World} {base : Nat} {e : TypeId} {size : Nat} {v : Value} {n : Nat} {xs : List Value} {q : Nat} (h : w.ownsRow base e size v n xs) : (w.drewN q).ownsRow base e size v n xs := h
theorem New1.drewN {nb : Nat} {w : World} {v : Value} {cs : List Value} {q : Nat} (h : New1 nb w v cs) : New1 nb (w.drewN q) v cs := h
theorem Nb.drewN {nb : Nat} {w : World} {q : Nat} (h : Nb nb w) : Nb nb (w.drewN q) := h
theorem KS.drewN {S : Nat → Prop} {w w' : World} {q : Nat} (h : KeptS S w w') : KeptS S w (w'.drewN q) := h.next (KeptS.of_below (below_drewN' q))
theorem S5.drewN {kb ka : Nat} {k : Int} {h : List UInt8} {d : Value} {r nu : Int} {w : World} {q : Nat} (hs : S5 kb ka k h d r nu w) : S5 kb ka k h d r nu (w.drewN q) := hs
end Go.Proofs.Ytongefjadoidbaa
