/-
  WatchGaps: what lies in memory.
-/
import Derived.Test.YtjnbflhpboheiaaDoorWtG
import Derived.Test.YtjnbflhpboheiaaDoorAwk16
import Derived.Deep.CutBlock
import Derived.WalkSpells
namespace Go.Proofs.YtjnbflhpboheiaaDoor
open Go.RowKit Go.ChangeMaps
set_option maxRecDepth 20000
set_option linter.unusedVariables false

structure GapM (w wr : World) (hb mh kb : Nat) (k : List UInt8 × Int) (N : Int) (D : List Dk) (va : Value) (T : List Ev) : Prop where
  hub : HubT wr hb mh D
  good : ∀ a ∈ absD D, Good N a
  cnt : (D.length : Int) ≤ N
  fresh : ∀ j, HubHas hb mh D j → w.heap.size ≤ j
  below : Below w.heap.size w wr
  key : ObjAt wr kb 28 #[tkey k.1, .int .i64 k.2]
  row : wr.ownsRow w.heap.size 38 3 va T.length (T.flatMap evC)
  off : ∀ g, va.ownBlock = some g → ¬ HubHas hb mh D g
theorem GapM.next {w wr wr' : World} {hb mh kb : Nat} {k : List UInt8 × Int} {N : Int} {D : List Dk} {va : Value} {T : List Ev} (h : GapM w wr hb mh kb k N D va T) (hb' : Below wr.heap.size wr wr') : GapM w wr' hb mh kb k N D va T :=
  ⟨h.hub.below hb', h.good, h.cnt, h.fresh, h.below.trans (hb'.mono h.below.size), h.key.below hb', owns_below h.row hb', h.off⟩
theorem GapM.move {w wr wr' : World} {hb mh kb : Nat} {k : List UInt8 × Int} {N M : Int} {D D' : List Dk} {va : Value} {T : List Ev} (h : GapM w wr hb mh kb k N D va T) (h1 : HubT wr' hb mh D') (h2 : MovedH wr wr' hb mh D D') (h3 : ∀ a ∈ absD D', Good M a) (h4 : (D'.length : Int) ≤ M) : GapM w wr' hb mh kb k M D' va T := by
  obtain ⟨q1, q2⟩ := h2.fresh h.fresh h.below.size
  refine ⟨h1, h3, h4, q2, h.below.trans q1, h.key.keptS h2.2 (h.hub.off h.key (by decide) (by decide) (by decide)), own_keptS h.row h2.2 h.off, fun g hg e => ?_⟩
  rcases h2.1 g e with q | q
  · exact h.off g hg q
  · have := (own_lt h.row g hg).2; omega
theorem GapM.grow {w wr wr' : World} {hb mh kb : Nat} {k : List UInt8 × Int} {N : Int} {D : List Dk} {va va' : Value} {T : List Ev} {e : Ev} (h : GapM w wr hb mh kb k N D va T) (ho : wr'.ownsRow w.heap.size 38 3 va' (T.length + 1) (T.flatMap evC ++ evC e)) (hg : wr.grownBy wr' va.ownBlock) (ha : ∀ g, va'.ownBlock = some g → va.ownBlock = some g ∨ g = wr.heap.size) : GapM w wr' hb mh kb k N D va' (T ++ [e]) := by
  have hk := KeptS.grown hg
  have hS : ∀ j, va.ownBlock = some j → w.heap.size ≤ j := fun j hj => (own_lt h.row j hj).1
  refine ⟨h.hub.keptS hk (fun j hj e => h.off j e hj), h.good, h.cnt, h.fresh, h.below.trans (hk.below hS h.below.size), h.key.keptS hk (fun e => ?_), by rw [List.length_append, List.flatMap_append]; simpa using ho, fun g hg2 e => ?_⟩
  · obtain ⟨cur, hc⟩ := own_obj h.row e
    exact h.key.ne_obj hc (by decide) rfl
  · rcases ha g hg2 with q | q
    · exact h.off g q e
    · have := h.hub.lt g e; omega
/-- An op. -/
structure Wq where
  kind : Int
  n : Int
  kh : List UInt8
  kn : Int
  path : List UInt8
  ea : Option Addr
  ec : Nat
  es : List Ef
def wqC (o : Wq) : List Value := [.int .i64 o.kind, .int .i64 o.n, tkey o.kh, .int .i64 o.kn, tkey o.path, .slice o.ea o.es.length o.ec]
theorem wqC_len (o : Wq) : (wqC o).length = 6 := rfl
structure WqAt (w : World) (o : Wq) : Prop where
  row : RowAt w o.ea (o.es.flatMap efC)
  nil : o.ea = none → o.ec = 0
  len : o.es.length ≤ 5864062014805
theorem WqAt.below {w w' : World} {o : Wq} (h : WqAt w o) (hb : Below w.heap.size w w') : WqAt w' o := ⟨h.row.below hb, h.nil, h.len⟩
theorem efC_one (es : List Ef) : ∀ u ∈ es.flatMap efC, u.oneCell' = true := fun u hu => by
  obtain ⟨e, _, he⟩ := List.mem_flatMap.1 hu
  simp only [efC, List.mem_cons, List.not_mem_nil, or_false] at he
  rcases he with rfl | rfl <;> rfl
theorem infoEf : (Tryd.prog.info? 33).map (fun i => (i.zero, i.size, i.bytes)) = some (some (.agg #[.int .i64 0, .string ⟨#[]⟩]), 2, 24) := by kernel_rfl
/-- The row of a session's events, told and kept apart. -/
theorem wpList_app_own {P : Program} {w : World} {ops : Array Oper} {rest : List Oper} {o : Oper} {a : Act} {Q : Exit → Act → World → Prop} (hgd : o.guard = Option.none) (s x : Operand) (t : TypeId)
    (ho : o.op = .call { callee := .builtin .append, args := #[s, x], argTypes := #[t, t] })
    (base : Nat) (e : TypeId) {z : Value} {size bytes : Nat} (ht : P.underlying t = some (.slice e)) (hinfo : (P.info? e).map (fun i => (i.zero, i.size, i.bytes)) = some (some z, size, bytes)) (hzs : z.cells.size = size) (hsz : 0 < size)
    (v : Value) (n : Nat) (xs news : List Value) (ad : Addr) (c : Nat) (hs : a.eval s = v) (hown : w.ownsRow base e size v n xs)
    (hx : a.eval x = .slice (some ad) 1 c) (hl : news.length = size) (hr : RowAt w (some ad) news) (h1 : ∀ u ∈ news, u.oneCell' = true) (h63 : n + 1 ≤ maxLen) (hlen : (n + 1) * bytes ≤ 140737488355328) (hbase : base ≤ w.heap.size)
    (h : ∀ g cap w1, w1.ownsRow base e size (.slice (some ⟨g, 0, none⟩) (n + 1) cap) (n + 1) (xs ++ news) → w.grownBy w1 v.ownBlock → (v.ownBlock = some g ∨ g = w.heap.size) → wpList P ops Q rest (a.put o.dst (.slice (some ⟨g, 0, none⟩) (n + 1) cap)) w1) :
    wpList P ops Q (o :: rest) a w := by
  obtain ⟨i, hi, hz, hsize, hby⟩ := info_parts hinfo
  exact wpList_append_lies w hgd s x t ho base e i z size bytes ht hi hz hsize hby hzs hsz v n xs hs hown ad 1 c news hx (by omega) hr.add h1 (by omega) h63 hlen hbase _ rfl (fun g cap w' h2 h3 h4 _ => h g cap w' h2 h3 h4)
theorem abs_len {D' : List Dk} {A : List Da} (h : absD D' = A) : D'.length = A.length := by rw [← h]; unfold absD; rw [List.length_map]
theorem addA_len (A : List Da) (k m : List UInt8 × Int) : (addA A k m).length ≤ A.length + 1 := by
  unfold addA
  split
  · cases seekA A k with
    | none => simp
    | some a => simp [setA]
  · omega
theorem ackH_len (A : List Da) (k : List UInt8 × Int) (n : Int) : (ackH A k n).length = A.length := by
  unfold ackH
  split
  · cases seekA A k with
    | none => rfl
    | some a => simp [setA]
  · rfl
theorem absD_len (D : List Dk) : (absD D).length = D.length := List.length_map _

end Go.Proofs.YtjnbflhpboheiaaDoor
