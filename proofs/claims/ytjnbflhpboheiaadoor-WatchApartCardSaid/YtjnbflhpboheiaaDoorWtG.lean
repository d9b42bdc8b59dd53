/-
  WatchGaps: the numbers of events (plain).
-/
import Derived.Test.YtjnbflhpboheiaaDoorWtL
namespace Go.Proofs.YtjnbflhpboheiaaDoor
open Go.RowKit
set_option linter.unusedVariables false

/-- A desk whose events have the numbers behind what was acknowledged. -/
structure Good (N : Int) (a : Da) : Prop where
  ok : a.Ok N
  a0 : 0 ≤ a.acked
  le : a.acked ≤ a.last
  len : (a.ev.length : Int) = a.last - a.acked
  nums : ∀ (i : Nat) (h : i < a.ev.length), a.ev[i].n = a.acked + 1 + i
theorem Good.more {N M : Int} {a : Da} (h : Good N a) (hM : N ≤ M) : Good M a := ⟨⟨h.ok.lo, Int.le_trans h.ok.hi hM, h.ok.few⟩, h.a0, h.le, h.len, h.nums⟩
theorem nums_snoc {l : List Ev} {e : Ev} {c : Int} (h : ∀ (i : Nat) (h : i < l.length), l[i].n = c + 1 + i) (he : e.n = c + 1 + l.length) : ∀ (i : Nat) (h : i < (l ++ [e]).length), (l ++ [e])[i].n = c + 1 + i := by
  intro i hi
  have hi' := hi
  rw [List.length_append] at hi'
  simp only [List.length_cons, List.length_nil] at hi'
  rcases Nat.lt_or_ge i l.length with g | g
  · rw [List.getElem_append_left g]; exact h i g
  · have : i = l.length := by omega
    subst this
    rw [List.getElem_append_right (Nat.le_refl _)]
    simp only [Nat.sub_self, List.getElem_cons_zero]
    exact he
theorem Good.fire {N : Int} {a : Da} (h : Good N a) (m : List UInt8 × Int) (kind : Int) : Good N (fireA m kind a) := by
  refine ⟨h.ok.fire m kind, ?_, ?_, ?_, ?_⟩
  all_goals
    unfold fireA
    have h0 := h.a0
    have h1 := h.le
    have h2 := h.len
    have h3 := h.nums
  · split
    · exact h0
    · exact h0
  · split
    · show a.acked ≤ a.last + 1; omega
    · exact h1
  · split
    · show ((a.ev ++ [_]).length : Int) = a.last + 1 - a.acked
      rw [List.length_append]; simp only [List.length_cons, List.length_nil]; omega
    · exact h2
  · split
    · exact nums_snoc h3 (by show a.last + 1 = a.acked + 1 + (a.ev.length : Int); omega)
    · exact h3
theorem good_map {N : Int} {A : List Da} (h : ∀ a ∈ A, Good N a) (m : List UInt8 × Int) (kind : Int) : ∀ a ∈ A.map (fireA m kind), Good N a := fun a ha => by
  obtain ⟨b, hb, rfl⟩ := List.mem_map.1 ha
  exact (h b hb).fire m kind
theorem good_run {N : Int} : ∀ (fs : List Fr) {A : List Da}, (∀ a ∈ A, Good N a) → ∀ a ∈ runF fs A, Good N a
  | [], _, h => h
  | f :: fs, _, h => good_run fs (good_map h f.1 f.2)
theorem Good.new (k : List UInt8 × Int) : Good 0 (newDa k) := ⟨⟨Int.le_refl _, Int.le_refl _, by simp [newDa]⟩, Int.le_refl _, Int.le_refl _, rfl, fun i h => by simp [newDa] at h⟩
theorem Good.mark {N : Int} {a : Da} (h : Good N a) (m : List UInt8 × Int) (hf : ¬ (m ∉ a.marks ∧ 32 ≤ a.marks.length + a.ev.length)) : Good (N + 1) (withM a m) := by
  refine ⟨⟨h.ok.lo, ?_, ?_⟩, h.a0, h.le, h.len, h.nums⟩
  · show a.last + ((if m ∈ a.marks then a.marks else a.marks ++ [m]).length : Nat) ≤ N + 1
    have := h.ok.hi
    split
    · omega
    · rw [List.length_append]; simp only [List.length_cons, List.length_nil]; omega
  · show a.ev.length + (if m ∈ a.marks then a.marks else a.marks ++ [m]).length ≤ 32
    have := h.ok.few
    split
    · omega
    · rename_i hm
      have : ¬ 32 ≤ a.marks.length + a.ev.length := fun q => hf ⟨hm, q⟩
      rw [List.length_append]; simp only [List.length_cons, List.length_nil]; omega
theorem seekA_some {A : List Da} {k : List UInt8 × Int} {d : Da} (h : seekA A k = some d) : d ∈ A ∧ d.key = k := ⟨List.mem_of_find?_eq_some h, by have := List.find?_some h; simpa using this⟩
theorem addE_ok {A : List Da} {k m : List UInt8 × Int} {a : Da} (h : addE A k m = 0) (hs : seekA A k = some a) : ¬ (m ∉ a.marks ∧ 32 ≤ a.marks.length + a.ev.length) := by
  intro hf
  unfold addE at h
  split at h
  · rw [hs] at h
    simp only at h
    rw [if_pos hf] at h
    exact absurd h (by decide)
  · contradiction
theorem mem_setA {A : List Da} {x a : Da} (h : a ∈ setA A x) : a = x ∨ a ∈ A := by
  unfold setA at h
  obtain ⟨y, hy, rfl⟩ := List.mem_map.1 h
  split
  · exact .inl rfl
  · exact .inr hy
theorem good_add {N : Int} {A : List Da} (h : ∀ a ∈ A, Good N a) (hN : 0 ≤ N) (k m : List UInt8 × Int) : ∀ a ∈ addA A k m, Good (N + 1) a := by
  intro a ha
  unfold addA at ha
  split at ha
  · rename_i he
    cases hs : seekA A k with
    | none =>
      rw [hs] at ha
      rcases List.mem_append.1 ha with ha | ha
      · exact (h a ha).more (by omega)
      · rw [List.mem_singleton.1 ha]
        exact ((Good.new k).more hN).mark m (by simp [newDa])
    | some x =>
      rw [hs] at ha
      rcases mem_setA ha with rfl | ha
      · exact (h x (seekA_some hs).1).mark m (addE_ok he hs)
      · exact (h a ha).more (by omega)
  · exact (h a ha).more (by omega)
theorem filter_nums : ∀ (l : List Ev) (c n : Int), (∀ (i : Nat) (h : i < l.length), l[i].n = c + 1 + i) → c ≤ n → n ≤ c + l.length → l.filter (fun x => !upTo n x) = l.drop (n - c).toNat
  | [], c, n, _, _, _ => by simp
  | e :: l, c, n, h, h1, h2 => by
    have he : e.n = c + 1 := by have := h 0 (by simp); simpa using this
    by_cases hn : n = c
    · have hz : (n - c).toNat = 0 := by omega
      rw [hz, List.drop_zero]
      refine List.filter_eq_self.2 fun x hx => ?_
      obtain ⟨i, hi, rfl⟩ := List.getElem_of_mem hx
      have := h i hi
      unfold upTo
      rw [decide_eq_false (by omega)]; rfl
    · have ht : (n - c).toNat = (n - (c + 1)).toNat + 1 := by omega
      rw [ht, List.drop_succ_cons, List.filter_cons]
      have hu : upTo n e = true := by unfold upTo; exact decide_eq_true (by omega)
      rw [hu]
      simp only [Bool.not_true, Bool.false_eq_true, if_false]
      simp only [List.length_cons] at h2
      exact filter_nums l (c + 1) n (fun i hi => by
        have := h (i + 1) (by simp; omega)
        simp only [List.getElem_cons_succ] at this
        rw [this]; push_cast; omega) (by omega) (by push_cast at h2; omega)
theorem Good.ack {N : Int} {a : Da} (h : Good N a) {n : Int} (h0 : 0 ≤ n) (h1 : n ≤ a.last) : Good N (ackA a n) := by
  have q0 := h.a0
  have q1 := h.le
  have q2 := h.len
  have q3 := h.nums
  have hev : (ackA a n).ev = a.ev.drop (max a.acked n - a.acked).toNat := by
    show a.ev.filter _ = _
    by_cases hn : a.acked ≤ n
    · rw [filter_nums a.ev a.acked n q3 hn (by omega), show max a.acked n = n from by omega]
    · rw [show max a.acked n = a.acked from by omega, Int.sub_self]
      show _ = a.ev.drop 0
      rw [List.drop_zero]
      refine List.filter_eq_self.2 fun x hx => ?_
      obtain ⟨i, hi, rfl⟩ := List.getElem_of_mem hx
      have := q3 i hi
      unfold upTo
      rw [decide_eq_false (by omega)]; rfl
  refine ⟨⟨h.ok.lo, h.ok.hi, ?_⟩, ?_, ?_, ?_, ?_⟩
  · have := h.ok.few
    rw [hev, List.length_drop]
    show _ + a.marks.length ≤ 32
    omega
  · show 0 ≤ max a.acked n; omega
  · show max a.acked n ≤ a.last; omega
  · rw [hev, List.length_drop]
    show _ = a.last - max a.acked n
    omega
  · intro i hi
    have e : (ackA a n).ev[i] = (a.ev.drop (max a.acked n - a.acked).toNat)[i]'(by rw [← hev]; exact hi) := by simp only [hev]
    rw [e, List.getElem_drop, q3]
    show _ = max a.acked n + 1 + i
    push_cast
    omega
theorem acks_ok {A : List Da} {k : List UInt8 × Int} {n : Int} (h : acks A k n = 0) : 0 ≤ n ∧ n ≤ lastA A k := by
  unfold acks at h
  split at h
  · exact absurd h (by decide)
  · omega
theorem good_ack {N : Int} {A : List Da} (h : ∀ a ∈ A, Good N a) (k : List UInt8 × Int) (n : Int) : ∀ a ∈ ackH A k n, Good N a := by
  intro a ha
  unfold ackH at ha
  split at ha
  · rename_i he
    obtain ⟨h0, h1⟩ := acks_ok he
    cases hs : seekA A k with
    | none => rw [hs] at ha; exact h a ha
    | some x =>
      rw [hs] at ha
      have hl : lastA A k = x.last := by unfold lastA; rw [hs]
      rcases mem_setA ha with rfl | ha
      · exact (h x (seekA_some hs).1).ack h0 (by omega)
      · exact h a ha
  · exact h a ha
theorem seekA_map {A : List Da} {f : Da → Da} (hf : ∀ a, (f a).key = a.key) (k : List UInt8 × Int) : seekA (A.map f) k = (seekA A k).map f := by
  unfold seekA
  rw [List.find?_map]
  congr 2
  funext a
  show decide ((f a).key = k) = _
  rw [hf]
theorem seekA_set {A : List Da} {x : Da} (k : List UInt8 × Int) : seekA (setA A x) k = (seekA A k).map fun y => if y.key = x.key then x else y := by
  unfold setA
  exact seekA_map (fun a => by split <;> simp [*]) k
theorem seekA_app (A : List Da) (x : Da) (k : List UInt8 × Int) : seekA (A ++ [x]) k = match seekA A k with | some a => some a | none => if x.key = k then some x else none := by
  unfold seekA
  rw [List.find?_append]
  cases A.find? _ with
  | some a => rfl
  | none => by_cases h : x.key = k <;> simp [h]
def Told (T : List Ev) (A : List Da) (k : List UInt8 × Int) : Prop := (T.length : Int) = lastA A k ∧ ∀ e ∈ evsA A k, T[(e.n - 1).toNat]? = some e
def Half (T : List Ev) (A : List Da) (k : List UInt8 × Int) : Prop := (T.length : Int) ≤ lastA A k ∧ ackedA A k ≤ T.length ∧ ∀ e ∈ evsA A k, e.n ≤ T.length → T[(e.n - 1).toNat]? = some e
theorem Told.half {N : Int} {T : List Ev} {A : List Da} {k : List UInt8 × Int} (h : Told T A k) (hg : ∀ a ∈ A, Good N a) : Half T A k := by
  refine ⟨Int.le_of_eq h.1, ?_, fun e he _ => h.2 e he⟩
  rw [h.1]
  unfold ackedA lastA
  cases hs : seekA A k with
  | none => exact Int.le_refl _
  | some a => exact (hg a (seekA_some hs).1).le
theorem Half.fire {T : List Ev} {A : List Da} {k : List UInt8 × Int} (h : Half T A k) (m : List UInt8 × Int) (kind : Int) : Half T (A.map (fireA m kind)) k := by
  obtain ⟨h1, h2, h3⟩ := h
  unfold Half lastA ackedA evsA at *
  rw [seekA_map (fireA_key m kind)]
  cases hs : seekA A k with
  | none => rw [hs] at h1 h2 h3; exact ⟨h1, h2, h3⟩
  | some a =>
    rw [hs] at h1 h2 h3
    simp only [Option.map_some] at h1 h2 h3 ⊢
    unfold fireA
    split
    · refine ⟨?_, h2, fun e he hl => ?_⟩
      · show (T.length : Int) ≤ a.last + 1; omega
      · have he' : e ∈ a.ev ++ [(⟨a.last + 1, kind, m.1⟩ : Ev)] := he
        rcases List.mem_append.1 he' with he | he
        · exact h3 e he hl
        · rw [List.mem_singleton.1 he] at hl
          simp only at hl
          omega
    · exact ⟨h1, h2, h3⟩
theorem Half.run {T : List Ev} {k : List UInt8 × Int} : ∀ (fs : List Fr) {A : List Da}, Half T A k → Half T (runF fs A) k
  | [], _, h => h
  | f :: fs, _, h => Half.run fs (h.fire f.1 f.2)
theorem Half.same {T : List Ev} {A A' : List Da} {k : List UInt8 × Int} (h : Half T A k) (h1 : lastA A' k = lastA A k) (h2 : ackedA A' k = ackedA A k) (h3 : evsA A' k = evsA A k) : Half T A' k := by
  unfold Half at *
  rw [h1, h2, h3]; exact h
/-- An Add leaves the events. -/
theorem add_same (A : List Da) (k' m k : List UInt8 × Int) : lastA (addA A k' m) k = lastA A k ∧ ackedA (addA A k' m) k = ackedA A k ∧ evsA (addA A k' m) k = evsA A k := by
  unfold addA
  split
  · cases hs : seekA A k' with
    | none =>
      unfold lastA ackedA evsA
      simp only
      rw [seekA_app]
      cases hk : seekA A k with
      | some a => exact ⟨rfl, rfl, rfl⟩
      | none =>
        simp only
        by_cases h : (withM (newDa k') m).key = k
        · rw [if_pos h]; exact ⟨rfl, rfl, rfl⟩
        · rw [if_neg h]; exact ⟨rfl, rfl, rfl⟩
    | some x =>
      unfold lastA ackedA evsA
      simp only
      rw [seekA_set]
      cases hk : seekA A k with
      | none => exact ⟨rfl, rfl, rfl⟩
      | some a =>
        simp only [Option.map_some]
        by_cases h : a.key = (withM x m).key
        · rw [if_pos h]
          have : x = a := by
            have h1 := (seekA_some hs).2
            have h2 := (seekA_some hk).2
            have h3 : a.key = x.key := h
            have e : k = k' := by rw [← h1, ← h2]; exact h3
            rw [e, hs] at hk
            exact Option.some.inj hk
          subst this
          exact ⟨rfl, rfl, rfl⟩
        · rw [if_neg h]; exact ⟨rfl, rfl, rfl⟩
  · exact ⟨rfl, rfl, rfl⟩
theorem Told.add {N : Int} {T : List Ev} {A : List Da} {k : List UInt8 × Int} (h : Told T A k) (hg : ∀ a ∈ A, Good N a) (k' m : List UInt8 × Int) : Half T (addA A k' m) k := by
  obtain ⟨h1, h2, h3⟩ := add_same A k' m k
  exact (h.half hg).same h1 h2 h3
theorem Told.ack {N : Int} {T : List Ev} {A : List Da} {k : List UInt8 × Int} (h : Told T A k) (hg : ∀ a ∈ A, Good N a) (k' : List UInt8 × Int) (n : Int) : Half T (ackH A k' n) k := by
  have hh := h.half hg
  unfold ackH
  split
  · rename_i he
    obtain ⟨g0, g1⟩ := acks_ok he
    cases hs : seekA A k' with
    | none => exact hh
    | some x =>
      obtain ⟨h1, h2, h3⟩ := hh
      unfold Half lastA ackedA evsA at *
      simp only
      rw [seekA_set]
      cases hk : seekA A k with
      | none => rw [hk] at h1 h2 h3; exact ⟨h1, h2, h3⟩
      | some a =>
        rw [hk] at h1 h2 h3
        simp only [Option.map_some] at h1 h2 h3 ⊢
        by_cases hkey : a.key = (ackA x n).key
        · rw [if_pos hkey]
          have hxa : x = a := by
            have q1 := (seekA_some hs).2
            have q2 := (seekA_some hk).2
            have q3 : a.key = x.key := hkey
            have e : k = k' := by rw [← q1, ← q2]; exact q3
            rw [e, hs] at hk
            exact Option.some.inj hk
          subst hxa
          have hT := h.1
          unfold lastA at hT
          rw [hk] at hT
          simp only at hT
          rw [hs] at g1
          simp only at g1
          refine ⟨h1, ?_, fun e he hl => h3 e (List.mem_filter.1 he).1 hl⟩
          show max x.acked n ≤ T.length
          omega
        · rw [if_neg hkey]; exact ⟨h1, h2, h3⟩
  · exact hh
theorem acksLast (A : List Da) (k : List UInt8 × Int) : True := trivial
/-- The events that are told, one by one. -/
structure Telling (T : List Ev) (A : List Da) (k : List UInt8 × Int) (i : Nat) (U : List Ev) : Prop where
  len : (U.length : Int) = max (T.length : Int) (ackedA A k + i)
  pre : ∀ j, j < T.length → U[j]? = T[j]?
  all : ∀ (j : Nat) (h : j < (evsA A k).length), j < i → U[((evsA A k)[j].n - 1).toNat]? = some (evsA A k)[j]
theorem good_k {N : Int} {A : List Da} (hg : ∀ a ∈ A, Good N a) (hN : 0 ≤ N) (k : List UInt8 × Int) : ∃ a, Good N a ∧ lastA A k = a.last ∧ ackedA A k = a.acked ∧ evsA A k = a.ev := by
  unfold lastA ackedA evsA
  cases hs : seekA A k with
  | none => exact ⟨newDa k, (Good.new k).more hN, rfl, rfl, rfl⟩
  | some a => exact ⟨a, hg a (seekA_some hs).1, rfl, rfl, rfl⟩
theorem Telling.start {T : List Ev} {A : List Da} {k : List UInt8 × Int} (h : Half T A k) : Telling T A k 0 T :=
  ⟨by have := h.2.1; simp; omega, fun _ _ => rfl, fun j _ h => absurd h (Nat.not_lt_zero _)⟩
theorem Telling.old {N : Int} {T U : List Ev} {A : List Da} {k : List UInt8 × Int} {i : Nat} (h : Telling T A k i U) (hh : Half T A k) (hg : ∀ a ∈ A, Good N a) (hN : 0 ≤ N) (hi : i < (evsA A k).length) (hl : (evsA A k)[i].n ≤ U.length) : U[((evsA A k)[i].n - 1).toNat]? = some (evsA A k)[i] ∧ Telling T A k (i + 1) U ∧ 1 ≤ (evsA A k)[i].n := by
  obtain ⟨a, ha, e1, e2, e3⟩ := good_k hg hN k
  have hn : (evsA A k)[i].n = ackedA A k + 1 + i := by
    have := ha.nums i (by rw [← e3]; exact hi)
    rw [e2]; simp only [e3]; exact this
  have h0 := ha.a0
  have hlen := h.len
  have hT : (evsA A k)[i].n ≤ T.length := by omega
  have hu : U[((evsA A k)[i].n - 1).toNat]? = some (evsA A k)[i] := by
    rw [h.pre _ (by omega)]
    exact hh.2.2 _ (List.getElem_mem hi) hT
  refine ⟨hu, ⟨by rw [hlen]; push_cast; omega, h.pre, fun j hj hji => ?_⟩, by omega⟩
  rcases Nat.lt_or_ge j i with g | g
  · exact h.all j hj g
  · obtain rfl : j = i := by omega
    exact hu
theorem Telling.new {N : Int} {T U : List Ev} {A : List Da} {k : List UInt8 × Int} {i : Nat} (h : Telling T A k i U) (hh : Half T A k) (hg : ∀ a ∈ A, Good N a) (hN : 0 ≤ N) (hi : i < (evsA A k).length) (hl : ¬ (evsA A k)[i].n ≤ U.length) : Telling T A k (i + 1) (U ++ [(evsA A k)[i]]) := by
  obtain ⟨a, ha, e1, e2, e3⟩ := good_k hg hN k
  have hn : (evsA A k)[i].n = ackedA A k + 1 + i := by
    have := ha.nums i (by rw [← e3]; exact hi)
    rw [e2]; simp only [e3]; exact this
  have h0 := ha.a0
  have hlen := h.len
  have hle := h.pre
  refine ⟨by rw [List.length_append]; simp only [List.length_cons, List.length_nil]; push_cast; omega, fun j hj => ?_, fun j hj hji => ?_⟩
  · rw [List.getElem?_append_left (by omega)]; exact h.pre j hj
  · rcases Nat.lt_or_ge j i with g | g
    · have q := h.all j hj g
      have hlt := (List.getElem?_eq_some_iff.1 q).1
      rw [List.getElem?_append_left hlt]; exact q
    · obtain rfl : j = i := by omega
      have : ((evsA A k)[j].n - 1).toNat = U.length := by omega
      rw [this, List.getElem?_append_right (Nat.le_refl _)]
      simp
theorem Telling.done {N : Int} {T U : List Ev} {A : List Da} {k : List UInt8 × Int} (h : Telling T A k (evsA A k).length U) (hh : Half T A k) (hg : ∀ a ∈ A, Good N a) (hN : 0 ≤ N) : Told U A k := by
  obtain ⟨a, ha, e1, e2, e3⟩ := good_k hg hN k
  have hlen := h.len
  have h1 := hh.1
  have h2 := ha.len
  rw [← e3, ← e1, ← e2] at h2
  refine ⟨by omega, fun e he => ?_⟩
  obtain ⟨j, hj, rfl⟩ := List.getElem_of_mem he
  exact h.all j hj hj
end Go.Proofs.YtjnbflhpboheiaaDoor
