/-
  What a disk always keeps, in plain Lean.
-/
import Derived.Test.YtibhkkfbhbnmeaaAwk3
import Derived.Test.YtibhkkfbhbnmeaaDsk9
import Derived.Test.YtibhkkfbhbnmeaaDskA
namespace Go.Proofs.Ytibhkkfbhbnmeaa
open Go.RowKit
set_option linter.unusedVariables false

def sumA (A : List Ab) : Nat := (A.map fun a => a.2.1.length).sum
structure Good (cap : Int) (A : List Ab) : Prop where
  nd : (A.map Prod.fst).Nodup
  tot : (sumA A : Int) ≤ cap
  nm : ∀ a ∈ A, fname a.1 = true
  sf : ∀ a ∈ A, a.2.2 ≤ a.2.1.length
theorem sumA_cons (a : Ab) (A : List Ab) : sumA (a :: A) = a.2.1.length + sumA A := by
  unfold sumA; rw [List.map_cons, List.sum_cons]
theorem sumA_app (A B : List Ab) : sumA (A ++ B) = sumA A + sumA B := by
  unfold sumA; rw [List.map_append, List.sum_append]
theorem sumA_map_le {f : Ab → Ab} : ∀ {A : List Ab}, (∀ a ∈ A, (f a).2.1.length ≤ a.2.1.length) → sumA (A.map f) ≤ sumA A
  | [], _ => Nat.le_refl _
  | a :: A, h => by
    rw [List.map_cons, sumA_cons, sumA_cons]
    have h1 := h a (List.mem_cons_self ..)
    have h2 := sumA_map_le (A := A) (f := f) fun b hb => h b (List.mem_cons_of_mem _ hb)
    omega
theorem map_names {f : Ab → Ab} (h : ∀ a, (f a).1 = a.1) (A : List Ab) : (A.map f).map Prod.fst = A.map Prod.fst := by
  rw [List.map_map]
  exact List.map_congr_left fun a _ => h a
theorem Good.map {cap : Int} {A : List Ab} {f : Ab → Ab} (h : Good cap A) (hn : ∀ a, (f a).1 = a.1) (hl : ∀ a ∈ A, (f a).2.1.length ≤ a.2.1.length) (hs : ∀ a ∈ A, (f a).2.2 ≤ (f a).2.1.length) : Good cap (A.map f) := by
  refine ⟨by rw [map_names hn]; exact h.nd, ?_, ?_, ?_⟩
  · have := sumA_map_le hl
    have := h.tot
    omega
  · intro a ha
    obtain ⟨b, hb, rfl⟩ := List.mem_map.1 ha
    rw [hn]; exact h.nm b hb
  · intro a ha
    obtain ⟨b, hb, rfl⟩ := List.mem_map.1 ha
    exact hs b hb
theorem sumA_filter (p : Ab → Bool) : ∀ A : List Ab, sumA (A.filter p) ≤ sumA A
  | [] => Nat.le_refl _
  | a :: A => by
    have := sumA_filter p A
    rw [List.filter_cons]
    split
    · rw [sumA_cons, sumA_cons]; omega
    · rw [sumA_cons]; omega
theorem Good.filter {cap : Int} {A : List Ab} (h : Good cap A) (p : Ab → Bool) : Good cap (A.filter p) := by
  refine ⟨h.nd.sublist (List.Sublist.map _ List.filter_sublist), ?_, fun a ha => h.nm a (List.mem_filter.1 ha).1, fun a ha => h.sf a (List.mem_filter.1 ha).1⟩
  have := sumA_filter p A
  have := h.tot
  omega
theorem Good.del {cap : Int} {A : List Ab} (h : Good cap A) (nm : List UInt8) : Good cap (delA A nm) := h.filter _
theorem Good.rem {cap : Int} : ∀ (ns : List (List UInt8)) {A : List Ab}, Good cap A → Good cap (remA A ns)
  | [], _, h => h
  | n :: ns, A, h => Good.rem ns (h.del n)
theorem Good.syn1 {cap : Int} {A : List Ab} (h : Good cap A) (nm : List UInt8) : Good cap (synA1 A nm) := by
  refine h.map (fun a => by split <;> rfl) (fun a _ => by split <;> exact Nat.le_refl _) (fun a ha => ?_)
  split
  · exact Nat.le_refl _
  · exact h.sf a ha
theorem Good.syn {cap : Int} : ∀ (ns : List (List UInt8)) {A : List Ab}, Good cap A → Good cap (synA A ns)
  | [], _, h => h
  | n :: ns, A, h => Good.syn ns (h.syn1 n)
theorem nd_eq {A : List Ab} (h : (A.map Prod.fst).Nodup) {a b : Ab} (ha : a ∈ A) (hb : b ∈ A) (e : a.1 = b.1) : a = b := by
  induction A with
  | nil => cases ha
  | cons c A ih =>
    rw [List.map_cons, List.nodup_cons] at h
    rcases List.mem_cons.1 ha with rfl | ha' <;> rcases List.mem_cons.1 hb with rfl | hb'
    · rfl
    · exact absurd (List.mem_map.2 ⟨b, hb', e.symm⟩) h.1
    · exact absurd (List.mem_map.2 ⟨a, ha', e⟩) h.1
    · exact ih h.2 ha' hb'
theorem Good.crash1 {cap : Int} {p : List Ab × List Int} (h : Good cap p.1) (nm : List UInt8) : Good cap (Proofs.Ytibhkkfbhbnmeaa.crash1 p nm).1 := by
  unfold Proofs.Ytibhkkfbhbnmeaa.crash1
  split
  · exact h
  · rename_i a ha
    have hm := List.mem_of_find?_eq_some ha
    have hn : a.1 = nm := by simpa using List.find?_some ha
    split
    · exact h
    · have hk := keepN_le p.2 (a.2.1.length - a.2.2)
      have hs := h.sf a hm
      refine h.map (fun b => by split <;> rfl) (fun b hb => ?_) (fun b hb => ?_)
      · split
        · rename_i e
          rw [nd_eq h.nd hb hm (e.trans hn.symm)]
          dsimp only
          rw [List.length_take]; omega
        · exact Nat.le_refl _
      · split
        · dsimp only
          rw [List.length_take]; omega
        · exact h.sf b hb
theorem Good.crashN {cap : Int} : ∀ (ns : List (List UInt8)) {p : List Ab × List Int}, Good cap p.1 → Good cap (Proofs.Ytibhkkfbhbnmeaa.crashN p ns).1
  | [], _, h => h
  | n :: ns, p, h => Good.crashN ns (p := Proofs.Ytibhkkfbhbnmeaa.crash1 p n) (h.crash1 n)
theorem Good.crash {cap : Int} {A : List Ab} (h : Good cap A) (cs : List Int) : Good cap (crashA A cs) := Good.crashN _ (p := (A, cs)) h
theorem map_other {A : List Ab} {nm : List UInt8} {f : Ab → Ab} (h : ∀ a ∈ A, a.1 ≠ nm) (hf : ∀ a, a.1 ≠ nm → f a = a) : A.map f = A := by
  induction A with
  | nil => rfl
  | cons a A ih =>
    rw [List.map_cons, hf a (h a (List.mem_cons_self ..)), ih fun b hb => h b (List.mem_cons_of_mem _ hb)]
theorem sumA_one {f : Ab → Ab} {nm : List UInt8} {n : Nat} : ∀ {A : List Ab}, (A.map Prod.fst).Nodup → (∀ a, a.1 ≠ nm → f a = a) → (∀ a ∈ A, a.1 = nm → (f a).2.1.length ≤ a.2.1.length + n) → sumA (A.map f) ≤ sumA A + n
  | [], _, _, _ => Nat.zero_le _
  | a :: A, hn, hf, hl => by
    rw [List.map_cons, List.nodup_cons] at hn
    rw [List.map_cons, sumA_cons, sumA_cons]
    by_cases e : a.1 = nm
    · have h1 := hl a (List.mem_cons_self ..) e
      rw [map_other (nm := nm) (fun b hb e2 => hn.1 (List.mem_map.2 ⟨b, hb, e2.trans e.symm⟩)) hf]
      omega
    · have h2 := sumA_one (A := A) hn.2 hf fun b hb => hl b (List.mem_cons_of_mem _ hb)
      rw [hf a e]
      omega
theorem nd_snoc {A : List Ab} {a : Ab} (h : (A.map Prod.fst).Nodup) (hn : A.any (fun y => decide (y.1 = a.1)) ≠ true) : ((A ++ [a]).map Prod.fst).Nodup := by
  rw [List.map_append, List.nodup_append]
  refine ⟨h, by simp, fun x hx y hy e => ?_⟩
  obtain ⟨b, hb, rfl⟩ := List.mem_map.1 hx
  simp only [List.map_cons, List.map_nil, List.mem_singleton] at hy
  exact hn (List.any_eq_true.2 ⟨b, hb, by rw [e, hy]; simp⟩)
theorem Good.app {cap : Int} {A : List Ab} {nm l : List UInt8} (h : Good cap A) (hf : fname nm = true) (ht : (sumA A : Int) + l.length ≤ cap) : Good cap (appA A nm l) := by
  unfold appA
  split
  · refine ⟨by rw [map_names fun a => by split <;> rfl]; exact h.nd, ?_, ?_, ?_⟩
    · have := sumA_one (A := A) (nm := nm) (n := l.length) (f := fun a => if a.1 = nm then (a.1, a.2.1 ++ l, a.2.2) else a) h.nd (fun a e => by rw [if_neg e]) (fun a _ e => by rw [if_pos e]; dsimp only; rw [List.length_append]; exact Nat.le_refl _)
      omega
    · intro a ha
      obtain ⟨b, hb, rfl⟩ := List.mem_map.1 ha
      split
      · exact h.nm b hb
      · exact h.nm b hb
    · intro a ha
      obtain ⟨b, hb, rfl⟩ := List.mem_map.1 ha
      have := h.sf b hb
      split
      · dsimp only; rw [List.length_append]; omega
      · exact this
  · rename_i hn
    refine ⟨nd_snoc h.nd hn, ?_, ?_, ?_⟩
    · rw [sumA_app, sumA_cons]
      show ((sumA A + (l.length + 0) : Nat) : Int) ≤ cap
      omega
    · intro a ha
      rcases List.mem_append.1 ha with ha | ha
      · exact h.nm a ha
      · rw [List.mem_singleton.1 ha]; exact hf
    · intro a ha
      rcases List.mem_append.1 ha with ha | ha
      · exact h.sf a ha
      · rw [List.mem_singleton.1 ha]; exact Nat.zero_le _
theorem Good.put {cap : Int} {A : List Ab} {a : Ab} (h : Good cap A) (hf : fname a.1 = true) (hs : a.2.2 ≤ a.2.1.length) (ht : (sumA A : Int) + a.2.1.length ≤ cap) : Good cap (putA A a) := by
  unfold putA
  split
  · refine ⟨by rw [map_names fun y => by split; (rename_i e; exact e.symm); rfl]; exact h.nd, ?_, ?_, ?_⟩
    · have := sumA_one (A := A) (nm := a.1) (n := a.2.1.length) (f := fun y => if y.1 = a.1 then a else y) h.nd (fun y e => by rw [if_neg e]) (fun y _ e => by rw [if_pos e]; omega)
      omega
    · intro y hy
      obtain ⟨b, hb, rfl⟩ := List.mem_map.1 hy
      split
      · exact hf
      · exact h.nm b hb
    · intro y hy
      obtain ⟨b, hb, rfl⟩ := List.mem_map.1 hy
      split
      · exact hs
      · exact h.sf b hb
  · rename_i hn
    refine ⟨nd_snoc h.nd hn, ?_, ?_, ?_⟩
    · rw [sumA_app, sumA_cons]
      show ((sumA A + (a.2.1.length + 0) : Nat) : Int) ≤ cap
      omega
    · intro y hy
      rcases List.mem_append.1 hy with hy | hy
      · exact h.nm y hy
      · rw [List.mem_singleton.1 hy]; exact hf
    · intro y hy
      rcases List.mem_append.1 hy with hy | hy
      · exact h.sf y hy
      · rw [List.mem_singleton.1 hy]; exact hs
theorem sumA_del : ∀ {A : List Ab} {a : Ab}, a ∈ A → sumA (delA A a.1) + a.2.1.length ≤ sumA A
  | b :: A, a, h => by
    have hf := sumA_filter (fun y => decide (y.1 ≠ a.1)) A
    unfold delA
    rw [List.filter_cons, sumA_cons]
    rcases List.mem_cons.1 h with rfl | h
    · rw [if_neg (by simp)]; omega
    · have := sumA_del h
      unfold delA at this
      split
      · rw [sumA_cons]; omega
      · omega
theorem Good.ren {cap : Int} {A : List Ab} {a : Ab} {t : List UInt8} (h : Good cap A) (ha : a ∈ A) (hf : fname t = true) : Good cap (putA (delA A a.1) (t, a.2.1, a.2.2)) :=
  (h.del a.1).put hf (h.sf a ha) (by have := sumA_del ha; have := h.tot; show (sumA (delA A a.1) : Int) + a.2.1.length ≤ cap; omega)
end Go.Proofs.Ytibhkkfbhbnmeaa
