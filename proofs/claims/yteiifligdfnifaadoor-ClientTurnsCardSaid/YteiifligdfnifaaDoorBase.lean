/-
  Plain words that every walk of this seat uses: rows of cells that are read, frames of worlds, append with any source.
-/
import Derived.WalkKit
import Derived.Laws.AppendOwnNone
import Derived.Laws.BytesArg
import Derived.Deep.Draws
import Derived.Deep.QuietTactic
import Derived.BigQuiet

import Derived.KernelRfl
import Derived.Deep.RegionLaw
namespace Go.Proofs.YteiifligdfnifaaDoor
open Go.RowKit

/-- The cells vs lie at the address a. -/
def RowAt (w : World) (a : Option Addr) (vs : List Value) : Prop := ∀ j v, vs[j]? = some v → ∃ b o, a = some ⟨b, o, none⟩ ∧ w.cell? ⟨b, o + j, none⟩ = some v

theorem RowAt.nil (w : World) (a : Option Addr) : RowAt w a [] := fun j v h => by simp at h

theorem lt_of_cell {w : World} {a : Addr} {v : Value} (h : w.cell? a = some v) : a.block < w.heap.size := block_lt_of_cell h

theorem RowAt.below {w w' : World} {a : Option Addr} {vs : List Value} (h : RowAt w a vs) (hb : Below w.heap.size w w') : RowAt w' a vs := by
  intro j v hj
  obtain ⟨b, o, ha, hc⟩ := h j v hj
  exact ⟨b, o, ha, (hb.cell (p := ⟨b, o + j, none⟩) (lt_of_cell hc)).trans hc⟩

theorem RowAt.at {w : World} {a : Option Addr} {vs : List Value} (h : RowAt w a vs) (j : Nat) (hj : j < vs.length) : ∃ b o, a = some ⟨b, o, none⟩ ∧ w.cell? ⟨b, o + j, none⟩ = some vs[j] :=
  h j vs[j] (by simp [hj])

/-- What a law on append asks of its source. -/
theorem RowAt.add {w : World} {ad : Addr} {vs : List Value} (h : RowAt w (some ad) vs) : ∀ j u, vs[j]? = some u → w.cell? (ad.add j) = some u := by
  intro j u hj
  obtain ⟨b, o, ha, hc⟩ := h j u hj
  obtain rfl := Option.some.inj ha
  rw [Addr.add_lit]; exact hc

theorem RowAt.none {w : World} {vs : List Value} (h : RowAt w none vs) : vs = [] := by
  cases vs with
  | nil => rfl
  | cons v vs => obtain ⟨b, o, ha, _⟩ := h 0 v rfl; cases ha

/-- A part of a row, at the address that a slice expression gives. -/
theorem RowAt.drop {w : World} {a : Option Addr} {vs : List Value} (h : RowAt w a vs) (k : Nat) {a' : Option Addr}
    (ha : k < vs.length → ∀ b o, a = some ⟨b, o, Option.none⟩ → a' = some ⟨b, o + k, Option.none⟩) : RowAt w a' (vs.drop k) := by
  intro j v hj
  rw [List.getElem?_drop] at hj
  obtain ⟨b, o, e, hc⟩ := h _ _ hj
  exact ⟨b, o + k, ha (by have := (List.getElem?_eq_some_iff.1 hj).1; omega) b o e, by rw [Nat.add_assoc]; exact hc⟩

theorem RowAt.take {w : World} {a : Option Addr} {vs : List Value} (h : RowAt w a vs) (k : Nat) : RowAt w a (vs.take k) := by
  intro j v hj
  rw [List.getElem?_take] at hj
  split at hj
  · exact h j v hj
  · cases hj

/-- What a call owns reads as a row. -/
theorem owns_row {w : World} {base : Nat} {e : TypeId} {size : Nat} {v : Value} {n : Nat} {xs : List Value} (h : w.ownsRow base e size v n xs) :
    ∃ a cap, v = .slice a n cap ∧ RowAt w a xs ∧ n ≤ cap ∧ cap ≤ maxLen := by
  obtain ⟨h1, h2⟩ := h
  rcases h2 with ⟨rfl, rfl⟩ | ⟨g, cap, cur, rfl, hb, hg, hn, hm, hs, ht⟩
  · have : xs = [] := List.eq_nil_of_length_eq_zero (by simpa using h1)
    subst this
    exact ⟨Option.none, 0, rfl, RowAt.nil _ _, Nat.le_refl _, Nat.zero_le _⟩
  · refine ⟨some ⟨g, 0, Option.none⟩, cap, rfl, ?_, hn, hm⟩
    intro j u hj
    refine ⟨g, 0, rfl, ?_⟩
    rw [Nat.zero_add, cell_of_row w g j cur e (0, 0) hg]
    rw [← ht, List.getElem?_take] at hj
    split at hj
    · simpa using hj
    · cases hj

theorem owns_below {w w' : World} {base : Nat} {e : TypeId} {size : Nat} {v : Value} {n : Nat} {xs : List Value} (h : w.ownsRow base e size v n xs) (hb : Below w.heap.size w w') : w'.ownsRow base e size v n xs := by
  obtain ⟨h1, h2⟩ := h
  refine ⟨h1, ?_⟩
  rcases h2 with hn | ⟨g, cap, cur, rfl, hbb, hg, r⟩
  · exact .inl hn
  · exact .inr ⟨g, cap, cur, rfl, hbb, by rw [hb.block g (Array.getElem?_eq_some_iff.1 hg).1]; exact hg, r⟩

theorem owns_base {w : World} {base base' : Nat} {e : TypeId} {size : Nat} {v : Value} {n : Nat} {xs : List Value} (h : w.ownsRow base e size v n xs) (hb : base' ≤ base) : w.ownsRow base' e size v n xs := by
  obtain ⟨h1, h2⟩ := h
  refine ⟨h1, ?_⟩
  rcases h2 with hn | ⟨g, cap, cur, rfl, hbb, r⟩
  · exact .inl hn
  · exact .inr ⟨g, cap, cur, rfl, Nat.le_trans hb hbb, r⟩

theorem below_drewN' {B : Nat} {w : World} (n : Nat) : Below B w (w.drewN n) := ⟨rfl, rfl, rfl, Nat.le_refl _, fun _ _ => rfl⟩

theorem oneCell_ints (k : IntKind) (zs : List Int) : ∀ u ∈ zs.map (Value.int k), u.oneCell' = true := ints_oneCell k zs

/-- A byte as a value. -/
abbrev byt (x : UInt8) : Value := .int .u8 (x.toNat : Int)
theorem oneCell_bytes (l : List UInt8) : ∀ u ∈ l.map byt, u.oneCell' = true := by
  intro u hu
  obtain ⟨_, _, rfl⟩ := List.mem_map.1 hu
  rfl

/-- 'append(v, x...)', v nil or the call's own, x any row. -/
theorem wpList_app {P : Program} {w : World} {ops : Array Oper} {rest : List Oper} {o : Oper} {a : Act} {Q : Exit → Act → World → Prop} (hgd : o.guard = Option.none) (s x : Operand) (t : TypeId)
    (ho : o.op = .call { callee := .builtin .append, args := #[s, x], argTypes := #[t, t] })
    (base : Nat) (e : TypeId) {z : Value} {size bytes : Nat} (ht : P.underlying t = some (.slice e)) (hinfo : (P.info? e).map (fun i => (i.zero, i.size, i.bytes)) = some (some z, size, bytes))
    (hzs : z.cells.size = size) (hsz : 0 < size)
    (v : Value) (n : Nat) (xs : List Value) (hs : a.eval s = v) (hown : w.ownsRow base e size v n xs)
    (ao : Option Addr) (m c : Nat) (news : List Value) (hx : a.eval x = .slice ao m c) (hl : news.length = m * size) (hnews : RowAt w ao news) (h1 : ∀ u ∈ news, u.oneCell' = true)
    (h63 : n + m ≤ maxLen) (hbytes : (n + m) * bytes ≤ 140737488355328) (hbase : base ≤ w.heap.size)
    (hc0 : ao = Option.none → c = 0)
    (h : ∀ v' w', w'.ownsRow base e size v' (n + m) (xs ++ news) → w.grownBy w' v.ownBlock → (v' = .slice Option.none 0 0 ↔ v = .slice Option.none 0 0 ∧ m = 0) → wpList P ops Q rest (a.put o.dst v') w') : wpList P ops Q (o :: rest) a w := by
  obtain ⟨i, hi, hz, hsize, hby⟩ := info_parts hinfo
  cases ao with
  | some ad => exact wpList_append_own w hgd s x t ho base e i z size bytes ht hi hz hsize hby hzs hsz v n xs hs hown ad m c news hx hl hnews.add h1 h63 hbytes hbase h
  | none =>
    obtain rfl := hnews.none
    obtain rfl := hc0 rfl
    have hm : m = 0 := by
      rcases Nat.mul_eq_zero.1 hl.symm with h | h <;> omega
    subst hm
    refine wpList_append_own_none hgd s x t ho base e i size ht hi v n xs hs hown hx ?_
    have := h v w (by simpa using hown) (World.grownBy.refl _ _) (by simp)
    exact this

/-- The world behind an append on what the call itself owns, from base on. -/
theorem below_app {B base : Nat} {w0 w w' : World} {e : TypeId} {size n : Nat} {v : Value} {xs : List Value} (hb : Below B w0 w) (hown : w.ownsRow base e size v n xs) (hg : w.grownBy w' v.ownBlock) (hB : B ≤ base) (hs : B ≤ w.heap.size) : Below B w0 w' :=
  hb.grown hg hs (fun k hk => Nat.le_trans hB (hown.lt k hk).1)

/-- Two rows: what is not written by an append stays. -/
theorem RowAt.grown {w w' : World} {row : Option Nat} {a : Option Addr} {vs : List Value} (h : RowAt w a vs) (hg : w.grownBy w' row) (hne : ∀ ad, a = some ad → some ad.block ≠ row) : RowAt w' a vs := by
  intro j v hj
  obtain ⟨b, o, ha, hc⟩ := h j v hj
  exact ⟨b, o, ha, hg.cell (a := ⟨b, o + j, Option.none⟩) hc (hne ⟨b, o, Option.none⟩ ha)⟩

theorem RowAt.lt {w : World} {a : Option Addr} {vs : List Value} (h : RowAt w a vs) (hne : vs ≠ []) : ∀ ad, a = some ad → ad.block < w.heap.size := by
  intro ad e
  cases vs with
  | nil => exact absurd rfl hne
  | cons v vs =>
    obtain ⟨b, o, ha, hc⟩ := h 0 v rfl
    rw [e] at ha
    obtain rfl := Option.some.inj ha
    exact lt_of_cell hc

/-- A row of new cells. -/
theorem RowAt.new (w : World) (cs : Array Value) (e : TypeId) (fr : Nat × Nat) : RowAt (w.alloc (.cells cs e fr)) (some ⟨w.heap.size, 0, Option.none⟩) cs.toList := by
  intro j v hj
  refine ⟨_, _, rfl, ?_⟩
  rw [cell_of_row (w.alloc (.cells cs e fr)) w.heap.size (0 + j) cs e fr (heap_alloc_new w _)]
  simpa using hj

/-- A fact that the walk does not look into. -/
theorem hid {p : Prop} (h : p) : Hid p := h

/-- A goal at which a walk stands still. -/
def Stop (p : Prop) : Prop := p
theorem Stop.mk {p : Prop} (h : Stop p) : p := h
theorem Stop.go {p : Prop} (h : p) : Stop p := h

theorem ret_v {v v' : Value} (h : v = v') : Ending.returned v = Ending.returned v' := by rw [h]

/-- An int that lies within 64 bits is itself. -/
theorem w64 {n : Int} (h0 : -9223372036854775808 ≤ n) (h1 : n ≤ 9223372036854775807) : wrap64 n = n := by unfold wrap64; omega
theorem int_v {k : IntKind} {a b : Int} (h : a = b) : Value.int k a = Value.int k b := by rw [h]
theorem ret_w64 {n m : Int} (h : n = m) (h0 : -9223372036854775808 ≤ n) (h1 : n ≤ 9223372036854775807) : Ending.returned (.int .i64 (wrap64 n)) = Ending.returned (.int .i64 m) := by rw [w64 h0 h1, h]

/-- v is a slice whose bytes are l. -/
def IsBytes (w : World) (v : Value) (l : List UInt8) : Prop := ∃ a c, v = .slice a l.length c ∧ RowAt w a (l.map byt) ∧ (a = Option.none → c = 0) ∧ l.length ≤ c ∧ c ≤ maxLen
theorem IsBytes.below {w w' : World} {v : Value} {l : List UInt8} (h : IsBytes w v l) (hb : Below w.heap.size w w') : IsBytes w' v l := by
  obtain ⟨a, c, rfl, hr, h0, h1, h2⟩ := h
  exact ⟨a, c, rfl, hr.below hb, h0, h1, h2⟩
theorem owns_bytes {w : World} {base : Nat} {e : TypeId} {v : Value} {l : List UInt8} (h : w.ownsRow base e 1 v l.length (l.map byt)) : IsBytes w v l := by
  have h' := h
  obtain ⟨a, c, rfl, hr, h1, h2⟩ := owns_row h
  refine ⟨a, c, rfl, hr, ?_, h1, h2⟩
  intro ha
  subst ha
  rcases h'.2 with ⟨e, _⟩ | ⟨g, cap, cur, e, _⟩
  · simp only [Value.slice.injEq] at e; exact e.2.2
  · simp at e

/-- 'append(v, c)', one byte. -/
theorem wpList_app_byte {P : Program} {w0 : World} {ops : Array Oper} {rest : List Oper} {o : Oper} {a : Act} {Q : Exit → Act → World → Prop} (hgd : o.guard = Option.none) (s x : Operand) (t : TypeId)
    (ho : o.op = .call { callee := .builtin .append, args := #[s, x], argTypes := #[t, t] })
    (base : Nat) (e : TypeId) (ht : P.underlying t = some (.slice e)) (hinfo : (P.info? e).map (fun i => (i.zero, i.size, i.bytes)) = some (some (.int .u8 0), 1, 1))
    (v : Value) (ys : List UInt8) (c : UInt8) (z : Int) (hs : a.eval s = v) (hown : w0.ownsRow base e 1 v ys.length (ys.map byt))
    (hx : a.eval x = .slice (some ⟨w0.heap.size, 0, Option.none⟩) 1 1) (hz : Hid (z = (c.toNat : Int))) (hlen : ys.length + 1 ≤ 140737488355328) (hbase : base ≤ w0.heap.size)
    (h : ∀ v' w1, w1.ownsRow base e 1 v' (ys ++ [c]).length ((ys ++ [c]).map byt) → Below base w0 w1 → wpList P ops Q rest (a.put o.dst v') w1) :
    wpList P ops Q (o :: rest) a (w0.alloc (.cells #[.int .u8 z] e)) := by
  refine wpList_app hgd s x t ho base e ht hinfo rfl (by omega) v ys.length (ys.map byt) hs (hown.alloc _) _ 1 1 [.int .u8 z] hx rfl (RowAt.new _ _ _ _) (by simp [Value.oneCell']) (by unfold maxLen; omega) (by omega) (by simp; omega) (by simp) ?_
  intro v' w1 ho1 hg _
  refine h v' w1 ?_ ((((Below.refl base w0).alloc hbase _).grown hg (by simp; omega) (fun k hk => (hown.lt k hk).1)))
  rw [hz.out] at ho1
  rw [List.length_append, List.map_append]; exact ho1

/-- 'append(v, u)', one element of one cell. -/
theorem wpList_app_one {P : Program} {w0 : World} {ops : Array Oper} {rest : List Oper} {o : Oper} {a : Act} {Q : Exit → Act → World → Prop} (hgd : o.guard = Option.none) (s x : Operand) (t : TypeId)
    (ho : o.op = .call { callee := .builtin .append, args := #[s, x], argTypes := #[t, t] })
    (base : Nat) (e : TypeId) {z : Value} {bytes : Nat} (ht : P.underlying t = some (.slice e)) (hinfo : (P.info? e).map (fun i => (i.zero, i.size, i.bytes)) = some (some z, 1, bytes)) (hzs : z.cells.size = 1)
    (v : Value) (xs : List Value) (u : Value) (hs : a.eval s = v) (hown : w0.ownsRow base e 1 v xs.length xs)
    (hx : a.eval x = .slice (some ⟨w0.heap.size, 0, Option.none⟩) 1 1) (hu : u.oneCell' = true) (hlen : (xs.length + 1) * bytes ≤ 140737488355328) (h63 : xs.length + 1 ≤ maxLen) (hbase : base ≤ w0.heap.size)
    (h : ∀ v' w1, w1.ownsRow base e 1 v' (xs ++ [u]).length (xs ++ [u]) → Below base w0 w1 → wpList P ops Q rest (a.put o.dst v') w1) :
    wpList P ops Q (o :: rest) a (w0.alloc (.cells #[u] e)) := by
  refine wpList_app hgd s x t ho base e ht hinfo hzs (by omega) v xs.length xs hs (hown.alloc _) _ 1 1 [u] hx rfl (RowAt.new _ _ _ _) (by simp [hu]) h63 hlen (by simp; omega) (by simp) ?_
  intro v' w1 ho1 hg _
  refine h v' w1 ?_ ((((Below.refl base w0).alloc hbase _).grown hg (by simp; omega) (fun k hk => (hown.lt k hk).1)))
  rw [List.length_append]; exact ho1

/-- 'append(v, b...)', b bytes. -/
theorem wpList_app_bytes {P : Program} {w : World} {ops : Array Oper} {rest : List Oper} {o : Oper} {a : Act} {Q : Exit → Act → World → Prop} (hgd : o.guard = Option.none) (s x : Operand) (t : TypeId)
    (ho : o.op = .call { callee := .builtin .append, args := #[s, x], argTypes := #[t, t] })
    (base : Nat) (e : TypeId) (ht : P.underlying t = some (.slice e)) (hinfo : (P.info? e).map (fun i => (i.zero, i.size, i.bytes)) = some (some (.int .u8 0), 1, 1))
    (v v2 : Value) (ys l : List UInt8) (hs : a.eval s = v) (hown : w.ownsRow base e 1 v ys.length (ys.map byt))
    (hx : a.eval x = v2) (hb : IsBytes w v2 l) (hlen : ys.length + l.length ≤ 140737488355328) (hbase : base ≤ w.heap.size)
    (h : ∀ v' w1, w1.ownsRow base e 1 v' (ys ++ l).length ((ys ++ l).map byt) → Below base w w1 → wpList P ops Q rest (a.put o.dst v') w1) :
    wpList P ops Q (o :: rest) a w := by
  obtain ⟨ao, c, rfl, hr, h0, _, _⟩ := hb
  refine wpList_app hgd s x t ho base e ht hinfo rfl (by omega) v ys.length (ys.map byt) hs hown ao l.length c (l.map byt) hx (by simp) hr (oneCell_bytes _) (by unfold maxLen; omega) (by omega) hbase h0 ?_
  intro v' w1 ho1 hg _
  refine h v' w1 ?_ ((Below.refl base w).grown hg hbase (fun k hk => (hown.lt k hk).1))
  rw [List.length_append, List.map_append]; exact ho1

theorem below_step {a b c : World} {B B' : Nat} (h : Below B a b) (hB : B ≤ B') (k : Below B' b c) : Below B a c := h.trans (k.mono hB)

/-- 'append(v, b...)', b bytes, as a step of a region that draws its order. -/
theorem step_app_bytes {P : Program} {w : World} {ops : Array Oper} {o : Oper} {a : Act} {K : Act → World → Prop} {Q : Exit → Act → World → Prop} {E : Prop} (hgd : o.guard = Option.none) (s x : Operand) (t : TypeId)
    (ho : o.op = .call { callee := .builtin .append, args := #[s, x], argTypes := #[t, t] })
    (base : Nat) (e : TypeId) (ht : P.underlying t = some (.slice e)) (hinfo : (P.info? e).map (fun i => (i.zero, i.size, i.bytes)) = some (some (.int .u8 0), 1, 1))
    (v v2 : Value) (ys l : List UInt8) (hs : a.eval s = v) (hown : w.ownsRow base e 1 v ys.length (ys.map byt))
    (hx : a.eval x = v2) (hb : IsBytes w v2 l) (hlen : ys.length + l.length ≤ 140737488355328) (hbase : base ≤ w.heap.size)
    (h : ∀ v' w1, w1.ownsRow base e 1 v' (ys ++ l).length ((ys ++ l).map byt) → Below base w w1 → K (a.put o.dst v') w1) :
    if Region.wanted o (yielded ops a.tmps) = true then Oper.wp P o a w K Q else E := by
  rw [if_pos (by simp [Region.wanted, hgd])]
  obtain ⟨ao, c, rfl, hr, h0, _, _⟩ := hb
  obtain ⟨i, hi, hz, hsize, hby⟩ := info_parts hinfo
  cases ao with
  | some ad =>
    refine wp_append_own w s x t ho base e i _ 1 1 ht hi hz hsize hby rfl (by omega) v ys.length (ys.map byt) hs hown ad l.length c (l.map byt) hx (by simp) hr.add (oneCell_bytes _) (by unfold maxLen; omega) (by omega) hbase ?_
    intro v' w1 ho1 hg _
    refine h v' w1 ?_ ((Below.refl base w).grown hg hbase (fun k hk => (hown.lt k hk).1))
    rw [List.length_append, List.map_append]; exact ho1
  | none =>
    have hl : l = [] := by simpa using hr.none
    subst hl
    obtain rfl := h0 rfl
    have hrun := run_append_owned_none (P := P) (w := w) base t o.type e i 1 ht hi v ys.length (ys.map byt) hown
    unfold Oper.wp
    simp only [List.length_nil] at hx
    simp [execOp, ho, resolve, invoke, builtin, hs, hx, hrun, Result.andThen]
    exact h v w (by simpa using hown) (Below.refl _ _)

/-- A part of bytes, as a slice expression gives it. -/
theorem bytes_part {w : World} {a : Option Addr} {c : Nat} {l : List UInt8} (h : IsBytes w (.slice a l.length c) l) (m u : Nat) (hmu : m + u ≤ l.length) :
    IsBytes w (.slice (if c = m then a else Option.map (fun x => x.add m) a) u (c - m)) ((l.drop m).take u) := by
  obtain ⟨a', c', e, hr, h0, h1, h2⟩ := h
  simp only [Value.slice.injEq] at e
  obtain ⟨rfl, _, rfl⟩ := e
  have hlen : ((l.drop m).take u).length = u := by rw [List.length_take, List.length_drop]; omega
  refine ⟨_, c - m, by rw [hlen], ?_, ?_, by rw [hlen]; omega, by omega⟩
  · rw [List.map_take, List.map_drop]
    refine (hr.drop m ?_).take _
    intro hm b o e
    rw [List.length_map] at hm
    rw [if_neg (by omega), e]
    simp [Addr.add_lit]
  · intro hn0
    split at hn0
    · rename_i hcm
      omega
    · cases a with
      | none => have := h0 rfl; omega
      | some ad => simp at hn0

/-- What owns something has an address. -/
theorem own_some {w : World} {base : Nat} {e : TypeId} {size n c : Nat} {a : Option Addr} {xs : List Value} (h : w.ownsRow base e size (.slice a n c) n xs) (hn : 0 < n) : ∃ g, a = some ⟨g, 0, Option.none⟩ ∧ base ≤ g ∧ g < w.heap.size := by
  rcases h.2 with ⟨_, h0⟩ | ⟨g, cap, cur, e, hb, hg, _⟩
  · omega
  · simp only [Value.slice.injEq] at e
    exact ⟨g, e.1, hb, (Array.getElem?_eq_some_iff.1 hg).1⟩
theorem not_u8 (x : UInt8) : bits .xor .u8 IntKind.u8.max (x.toNat : Int) = ((UInt8.ofNat (255 - x.toNat)).toNat : Int) := by
  have e : IntKind.u8.max = ((255 : Nat) : Int) := by decide
  have hx := x.toNat_lt
  have h : ∀ m : Nat, m < 256 → 255 ^^^ m = 255 - m := by decide +kernel
  rw [e, u8_xor_nat _ _ (by omega) (by omega), h _ (by omega)]
  simp; omega

theorem below_next {a b c : World} (h : Below a.heap.size a b) (k : Below b.heap.size b c) : Below a.heap.size a c := h.trans (k.mono h.size)
theorem below_new {w : World} (o : Obj) : Below w.heap.size w (w.alloc o) := (Below.refl _ _).alloc (Nat.le_refl _) o
end Go.Proofs.YteiifligdfnifaaDoor
