/-
  WatchApart: what one session sees; two hubs in memory.
-/
import Derived.Test.YtjnbflhpboheiaaDoorRw3
namespace Go.Proofs.YtjnbflhpboheiaaDoor
open Go.RowKit
set_option maxRecDepth 20000
set_option linter.unusedVariables false

theorem seekA_run (k : List UInt8 × Int) : ∀ (fs : List Fr) (A : List Da), seekA (runF fs A) k = (seekA A k).map fun a => fs.foldl (fun a f => fireA f.1 f.2 a) a
  | [], A => by simp [runF]
  | f :: fs, A => by
    simp only [runF]
    rw [seekA_run k fs, seekA_map (fireA_key f.1 f.2), Option.map_map]; rfl
def addV (v : Option Da) (k m : List UInt8 × Int) : Option Da :=
  if checkP k m = 0 then (match v with | none => some (withM (newDa k) m) | some a => if m ∉ a.marks ∧ 32 ≤ a.marks.length + a.ev.length then some a else some (withM a m)) else v
theorem seekA_add (A : List Da) (k m : List UInt8 × Int) : seekA (addA A k m) k = addV (seekA A k) k m := by
  unfold addA addV addE
  by_cases hc : checkP k m = 0
  · rw [if_pos hc, if_pos hc]
    cases hs : seekA A k with
    | none =>
      simp only [if_true]
      rw [seekA_app, hs]
      have : (withM (newDa k) m).key = k := rfl
      simp [this]
    | some a =>
      simp only
      by_cases hf : m ∉ a.marks ∧ 32 ≤ a.marks.length + a.ev.length
      · rw [if_pos hf, if_pos hf, if_neg (by decide)]; exact hs
      · rw [if_neg hf, if_neg hf, if_pos rfl, seekA_set, hs]
        have : (withM a m).key = a.key := rfl
        simp [this]
  · rw [if_neg hc, if_neg hc, if_neg hc]
def ackV (v : Option Da) (n : Int) : Option Da :=
  match v with | none => none | some a => if n < 0 ∨ a.last < n then some a else some (ackA a n)
theorem seekA_ack (A : List Da) (k : List UInt8 × Int) (n : Int) : seekA (ackH A k n) k = ackV (seekA A k) n := by
  unfold ackH ackV acks lastA
  cases hs : seekA A k with
  | none => simp only; split <;> exact hs
  | some a =>
    simp only
    by_cases hf : n < 0 ∨ a.last < n
    · rw [if_pos hf, if_neg (by decide), if_pos hf]; exact hs
    · rw [if_neg hf, if_pos rfl, if_neg hf, seekA_set, hs]
      have : (ackA a n).key = a.key := rfl
      simp [this]
theorem seekA_drop (A : List Da) (k : List UInt8 × Int) : seekA (dropA A k) k = none := by
  unfold seekA dropA
  rw [List.find?_eq_none]
  intro x hx
  have := (List.mem_filter.1 hx).2
  simpa using this
theorem view_same {A B : List Da} {o : Wq} {k : List UInt8 × Int} (h : o.kind = 2 ∨ (o.kh, o.kn) = k) (hv : seekA A k = seekA B k) : seekA (stepA A o) k = seekA (stepA B o) k := by
  unfold stepA
  by_cases h1 : o.kind = 1
  · rw [if_pos h1, if_pos h1]
    have hk : (o.kh, o.kn) = k := h.resolve_left (by omega)
    rw [hk, seekA_add, seekA_add, hv]
  · rw [if_neg h1, if_neg h1]
    by_cases h2 : o.kind = 2
    · rw [if_pos h2, if_pos h2, seekA_run, seekA_run, hv]
    · rw [if_neg h2, if_neg h2]
      have hk : (o.kh, o.kn) = k := h.resolve_left h2
      by_cases h3 : o.kind = 3
      · rw [if_pos h3, if_pos h3, hk, seekA_ack, seekA_ack, hv]
      · rw [if_neg h3, if_neg h3]
        by_cases h4 : o.kind = 4
        · rw [if_pos h4, if_pos h4, hk, seekA_drop, seekA_drop]
        · rw [if_neg h4, if_neg h4]; exact hv
theorem seekA_setO {A : List Da} {x : Da} {k : List UInt8 × Int} (h : x.key ≠ k) : seekA (setA A x) k = seekA A k := by
  rw [seekA_set]
  cases hs : seekA A k with
  | none => rfl
  | some a =>
    have := (seekA_some hs).2
    simp only [Option.map_some]
    rw [if_neg (by rw [this]; exact fun e => h e.symm)]
theorem view_other {A : List Da} {o : Wq} {k : List UInt8 × Int} (h2 : o.kind ≠ 2) (hk : (o.kh, o.kn) ≠ k) : seekA (stepA A o) k = seekA A k := by
  unfold stepA
  by_cases h1 : o.kind = 1
  · rw [if_pos h1]
    unfold addA
    split
    · cases hs : seekA A (o.kh, o.kn) with
      | none =>
        simp only
        rw [seekA_app]
        have : (withM (newDa (o.kh, o.kn)) (o.path, o.n)).key = (o.kh, o.kn) := rfl
        cases seekA A k with
        | none => simp only; rw [this, if_neg hk]
        | some a => rfl
      | some a =>
        simp only
        exact seekA_setO (by show a.key ≠ k; rw [(seekA_some hs).2]; exact hk)
    · rfl
  · rw [if_neg h1, if_neg h2]
    by_cases h3 : o.kind = 3
    · rw [if_pos h3]
      unfold ackH
      split
      · cases hs : seekA A (o.kh, o.kn) with
        | none => rfl
        | some a =>
          simp only
          exact seekA_setO (by show a.key ≠ k; rw [(seekA_some hs).2]; exact hk)
      · rfl
    · rw [if_neg h3]
      by_cases h4 : o.kind = 4
      · rw [if_pos h4]
        unfold seekA dropA
        rw [List.find?_filter]
        refine congrFun (congrArg _ ?_) _
        funext a
        by_cases ha : a.key = k
        · have : a.key ≠ (o.kh, o.kn) := fun e => hk (e.symm.trans ha)
          simp only [ha]
          simpa using fun e : k = (o.kh, o.kn) => hk e.symm
        · simp [ha]
      · rw [if_neg h4]
theorem good_step {N : Int} {A : List Da} (h : ∀ a ∈ A, Good N a) (hN : 0 ≤ N) (o : Wq) : ∀ a ∈ stepA A o, Good (N + 1) a := by
  unfold stepA
  split
  · exact good_add h hN _ _
  · split
    · exact fun a ha => (good_run _ h a ha).more (by omega)
    · split
      · exact fun a ha => (good_ack h _ _ a ha).more (by omega)
      · split
        · exact fun a ha => (h a (List.mem_filter.1 ha).1).more (by omega)
        · exact fun a ha => (h a ha).more (by omega)
theorem stepA_len (A : List Da) (o : Wq) : (stepA A o).length ≤ A.length + 1 := by
  unfold stepA
  split
  · exact addA_len _ _ _
  · split
    · rw [runF_length]; omega
    · split
      · rw [ackH_len]; omega
      · split
        · have := List.length_filter_le (fun a : Da => decide (a.key ≠ (o.kh, o.kn))) A
          unfold dropA; omega
        · omega
/-- Two hubs side by side. -/
structure PairAt (w wr : World) (kb : Nat) (k : List UInt8 × Int) (N : Int) (hb mh : Nat) (D : List Dk) (gb gh : Nat) (G : List Dk) : Prop where
  hub : HubT wr hb mh D
  hug : HubT wr gb gh G
  good : ∀ a ∈ absD D, Good N a
  goog : ∀ a ∈ absD G, Good N a
  len : (D.length : Int) ≤ N
  leg : (G.length : Int) ≤ N
  fresh : ∀ j, HubHas hb mh D j → w.heap.size ≤ j
  freg : ∀ j, HubHas gb gh G j → w.heap.size ≤ j
  below : Below w.heap.size w wr
  key : ObjAt wr kb 28 #[tkey k.1, .int .i64 k.2]
  dis : ∀ j, HubHas hb mh D j → ¬ HubHas gb gh G j
theorem PairAt.swap {w wr : World} {kb : Nat} {k : List UInt8 × Int} {N : Int} {hb mh : Nat} {D : List Dk} {gb gh : Nat} {G : List Dk} (h : PairAt w wr kb k N hb mh D gb gh G) : PairAt w wr kb k N gb gh G hb mh D :=
  ⟨h.hug, h.hub, h.goog, h.good, h.leg, h.len, h.freg, h.fresh, h.below, h.key, fun j a b => h.dis j b a⟩
theorem PairAt.next {w wr wr' : World} {kb : Nat} {k : List UInt8 × Int} {N : Int} {hb mh : Nat} {D : List Dk} {gb gh : Nat} {G : List Dk} (h : PairAt w wr kb k N hb mh D gb gh G) (hb' : Below wr.heap.size wr wr') : PairAt w wr' kb k N hb mh D gb gh G :=
  ⟨h.hub.below hb', h.hug.below hb', h.good, h.goog, h.len, h.leg, h.fresh, h.freg, h.below.trans (hb'.mono h.below.size), h.key.below hb', h.dis⟩
theorem PairAt.more {w wr : World} {kb : Nat} {k : List UInt8 × Int} {N M : Int} {hb mh : Nat} {D : List Dk} {gb gh : Nat} {G : List Dk} (h : PairAt w wr kb k N hb mh D gb gh G) (hM : N ≤ M) : PairAt w wr kb k M hb mh D gb gh G :=
  ⟨h.hub, h.hug, fun a ha => (h.good a ha).more hM, fun a ha => (h.goog a ha).more hM, Int.le_trans h.len hM, Int.le_trans h.leg hM, h.fresh, h.freg, h.below, h.key, h.dis⟩
theorem PairAt.step {w wr wr' : World} {kb : Nat} {k : List UInt8 × Int} {N : Int} {hb mh : Nat} {D : List Dk} {gb gh : Nat} {G : List Dk} {xb : Nat} {o : Wq} (h : PairAt w wr kb k N hb mh D gb gh G) (hN : 0 ≤ N) (hx : Rf0 wr xb) (hxw : w.heap.size ≤ xb) (hP : StepP wr hb mh xb D (stepA (absD D) o) wr') :
    ∃ D', absD D' = stepA (absD D) o ∧ PairAt w wr' kb k (N + 1) hb mh D' gb gh G ∧ ∀ (b : Nat) (t : TypeId) (cs : Array Value), 55 ≠ t → 67 ≠ t → 38 ≠ t → 52 ≠ t → ObjAt wr b t cs → ObjAt wr' b t cs := by
  obtain ⟨D', h1, h2, h3, h4⟩ := hP
  have hkeep : ∀ (b : Nat) (t : TypeId) (cs : Array Value), 55 ≠ t → 67 ≠ t → 38 ≠ t → 52 ≠ t → ObjAt wr b t cs → ObjAt wr' b t cs := fun b t cs n1 n2 n3 n4 ho => ho.keptS h4 (by
    rintro (e | e)
    · exact h.hub.off ho n1 n2 n3 e
    · exact ObjAt.ne_obj hx ho n4 e.symm)
  refine ⟨D', h2, ⟨h1, h.hug.keptS h4 ?_, ?_, fun a ha => (h.goog a ha).more (by omega), ?_, by have := h.leg; omega, fun j hj => ?_, h.freg, ?_, hkeep _ _ _ (by decide) (by decide) (by decide) (by decide) h.key, fun j hj hg => ?_⟩, hkeep⟩
  · rintro j hj (e | rfl)
    · exact h.dis j e hj
    · exact Rf0.off h.hug hx hj
  · rw [h2]; exact good_step h.good hN o
  · have q1 := abs_len h2
    have q2 := stepA_len (absD D) o
    have q3 := absD_len D
    have q4 := h.len
    omega
  · rcases h3 j hj with q | q
    · exact h.fresh j q
    · exact Nat.le_trans h.below.size q
  · exact h.below.trans (h4.below (fun j hj => hj.elim (h.fresh j) (fun e => by rw [e]; exact hxw)) h.below.size)
  · rcases h3 j hj with q | q
    · exact h.dis j q hg
    · have := h.hug.lt j hg; omega
theorem key_eql (a b : List UInt8 × Int) (w : World) : (binOp BinOp.eql 28 (.agg #[tkey a.1, .int .i64 a.2]) (.agg #[tkey b.1, .int .i64 b.2])).run Tryd.prog w = .ok (.bool (decide (a = b))) w := by
  have h := skey_eq a b w
  unfold binOp
  simp only [Sem.run_bind]
  show (Sem.run Tryd.prog (Op.equal 28 (skey a) (skey b)) w).andThen _ = _
  rw [h]; rfl
end Go.Proofs.YtjnbflhpboheiaaDoor
