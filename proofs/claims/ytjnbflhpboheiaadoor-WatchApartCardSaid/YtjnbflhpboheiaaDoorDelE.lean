/-
  slices.DeleteFunc of the events up to a number.
-/
import Derived.Test.YtjnbflhpboheiaaDoorWtE
import Derived.Test.YtjnbflhpboheiaaDoorFlat
import Derived.Laws.IdiomCopy
import Derived.Lib.SliceRun
namespace Go.Proofs.YtjnbflhpboheiaaDoor
open Go.RowKit
set_option maxRecDepth 20000
set_option linter.unusedVariables false

def idxE (p : Ev → Bool) (l : List Ev) : Int := match l.findIdx? p with | some j => j | none => -1
theorem idxE_at {p : Ev → Bool} {l : List Ev} {k : Nat} (hk : k < l.length) (e : p l[k] = true) (h : ∀ (j : Nat) (hj : j < l.length), j < k → p l[j] = false) : idxE p l = k := by
  unfold idxE
  have : l.findIdx? p = some k := List.findIdx?_eq_some_iff_getElem.2 ⟨hk, e, fun j hj => by simpa using h j (by omega) hj⟩
  rw [this]
theorem idxE_none {p : Ev → Bool} {l : List Ev} (h : ∀ (j : Nat) (hj : j < l.length), p l[j] = false) : idxE p l = -1 := by
  unfold idxE
  have : l.findIdx? p = none := by
    rw [List.findIdx?_eq_none_iff]
    intro x hx
    obtain ⟨j, hj, rfl⟩ := List.getElem_of_mem hx
    exact h j hj
  rw [this]
theorem idxE_cases (p : Ev → Bool) (l : List Ev) : (idxE p l = -1 ∧ ∀ x ∈ l, p x = false) ∨ ∃ (k : Nat) (hk : k < l.length), idxE p l = k ∧ p l[k] = true ∧ ∀ (j : Nat) (hj : j < l.length), j < k → p l[j] = false := by
  unfold idxE
  cases h : l.findIdx? p with
  | none => exact .inl ⟨rfl, fun x hx => by simpa using List.findIdx?_eq_none_iff.1 h x hx⟩
  | some j =>
    obtain ⟨hj, h1, h2⟩ := List.findIdx?_eq_some_iff_getElem.1 h
    exact .inr ⟨j, hj, rfl, h1, fun i hi hij => by simpa using h2 i hij⟩

/-- One element's cells laid. -/
def setE (cur : Array Value) (o : Nat) (e : Ev) : Array Value := ((cur.setIfInBounds o (.int .i64 e.n)).setIfInBounds (o + 1) (.int .i64 e.kind)).setIfInBounds (o + 2) (tkey e.path)
theorem setE_size (cur : Array Value) (o : Nat) (e : Ev) : (setE cur o e).size = cur.size := by unfold setE; simp
theorem setE_out {cur : Array Value} {o m : Nat} {e : Ev} (h : m < o ∨ o + 3 ≤ m) : (setE cur o e)[m]? = cur[m]? := by
  unfold setE
  rw [Array.getElem?_setIfInBounds_ne (by omega), Array.getElem?_setIfInBounds_ne (by omega), Array.getElem?_setIfInBounds_ne (by omega)]
theorem setE_in {cur : Array Value} {o t : Nat} {e : Ev} (ho : o + 3 ≤ cur.size) (ht : t < 3) : (setE cur o e)[o + t]? = (evC e)[t]? := by
  unfold setE
  have : t = 0 ∨ t = 1 ∨ t = 2 := by omega
  rcases this with rfl | rfl | rfl
  · rw [Array.getElem?_setIfInBounds_ne (by omega), Array.getElem?_setIfInBounds_ne (by omega), Nat.add_zero, Array.getElem?_setIfInBounds_self_of_lt (by omega)]; rfl
  · rw [Array.getElem?_setIfInBounds_ne (by omega), Array.getElem?_setIfInBounds_self_of_lt (by simp; omega)]; rfl
  · rw [Array.getElem?_setIfInBounds_self_of_lt (by simp; omega)]; rfl
/-- What DeleteFunc has done when it looks at place j: i are kept. -/
structure DelE (p : Ev → Bool) (l : List Ev) (i j : Nat) (cur : Array Value) : Prop where
  size : l.length * 3 ≤ cur.size
  lt : i < j
  le : j ≤ l.length
  cnt : i = ((l.take j).filter fun x => !p x).length
  low : ∀ (m : Nat) (hm : m < ((l.take j).filter fun x => !p x).length) (t : Nat), t < 3 → cur[m * 3 + t]? = (evC ((l.take j).filter fun x => !p x)[m])[t]?
  high : ∀ (m : Nat) (hm : m < l.length), j ≤ m → ∀ t, t < 3 → cur[m * 3 + t]? = (evC l[m])[t]?
theorem DelE.start {p : Ev → Bool} {l : List Ev} {k : Nat} {cur : Array Value} (hk : k < l.length) (e : p l[k] = true) (h : ∀ (j : Nat) (hj : j < l.length), j < k → p l[j] = false) (hs : l.length * 3 ≤ cur.size)
    (hc : ∀ (m : Nat) (hm : m < l.length) (t : Nat), t < 3 → cur[m * 3 + t]? = (evC l[m])[t]?) : DelE p l k (k + 1) cur := by
  have hf : (l.take (k + 1)).filter (fun x => !p x) = l.take k := by
    rw [List.take_succ_eq_append_getElem hk, List.filter_append]
    rw [List.filter_eq_self.2 (fun x hx => by
      obtain ⟨j, hj, rfl⟩ := List.getElem_of_mem hx
      simp only [List.length_take] at hj
      rw [List.getElem_take, h j (by omega) (by omega)]; rfl)]
    simp [e]
  refine ⟨hs, Nat.lt_succ_self _, hk, by rw [hf]; simp; omega, fun m hm t ht => ?_, fun m hm _ => hc m hm⟩
  have hm2 : m < (l.take k).length := by rw [← hf]; exact hm
  have hm3 : m < l.length := by simp only [List.length_take] at hm2; omega
  have e2 : ((l.take (k + 1)).filter fun x => !p x)[m] = l[m] := by
    have : ((l.take (k + 1)).filter fun x => !p x)[m]? = (l.take k)[m]? := by rw [hf]
    rw [List.getElem?_eq_getElem hm, List.getElem?_eq_getElem hm2, List.getElem_take] at this
    exact Option.some.inj this
  rw [e2]; exact hc m hm3 t ht
theorem DelE.drop {p : Ev → Bool} {l : List Ev} {i j : Nat} {cur : Array Value} (h : DelE p l i j cur) (hj : j < l.length) (e : p l[j] = true) : DelE p l i (j + 1) cur := by
  have hf : (l.take (j + 1)).filter (fun x => !p x) = (l.take j).filter (fun x => !p x) := by
    rw [List.take_succ_eq_append_getElem hj, List.filter_append]; simp [e]
  refine ⟨h.size, by have := h.lt; omega, hj, by rw [hf]; exact h.cnt, fun m hm t ht => ?_, fun m hm hjm => h.high m hm (by omega)⟩
  have hm2 : m < ((l.take j).filter fun x => !p x).length := by rw [← hf]; exact hm
  have e2 : ((l.take (j + 1)).filter fun x => !p x)[m] = ((l.take j).filter fun x => !p x)[m] := by
    have : ((l.take (j + 1)).filter fun x => !p x)[m]? = ((l.take j).filter fun x => !p x)[m]? := by rw [hf]
    rw [List.getElem?_eq_getElem hm, List.getElem?_eq_getElem hm2] at this
    exact Option.some.inj this
  rw [e2]; exact h.low m hm2 t ht
theorem DelE.keep {p : Ev → Bool} {l : List Ev} {i j : Nat} {cur : Array Value} (h : DelE p l i j cur) (hj : j < l.length) (e : p l[j] = false) : DelE p l (i + 1) (j + 1) (setE cur (i * 3) l[j]) := by
  have hf : (l.take (j + 1)).filter (fun x => !p x) = (l.take j).filter (fun x => !p x) ++ [l[j]] := by
    rw [List.take_succ_eq_append_getElem hj, List.filter_append]; simp [e]
  have hlt := h.lt
  have hsz := h.size
  have hic := h.cnt
  have hle := h.le
  refine ⟨by rw [setE_size]; exact h.size, by omega, hj, by rw [hf]; simp; exact hic, fun m hm t ht => ?_, fun m hm hjm t ht => ?_⟩
  · have hm3 : m < ((l.take j).filter (fun x => !p x) ++ [l[j]]).length := by rw [← hf]; exact hm
    have e2 : ((l.take (j + 1)).filter fun x => !p x)[m] = ((l.take j).filter (fun x => !p x) ++ [l[j]])[m] := by
      have : ((l.take (j + 1)).filter fun x => !p x)[m]? = ((l.take j).filter (fun x => !p x) ++ [l[j]])[m]? := by rw [hf]
      rw [List.getElem?_eq_getElem hm, List.getElem?_eq_getElem hm3] at this
      exact Option.some.inj this
    rw [e2]
    rcases Nat.lt_or_ge m i with g | g
    · rw [setE_out (.inl (by omega)), List.getElem_append_left (by omega)]
      exact h.low m (by omega) t ht
    · have hmi : m = i := by
        rw [List.length_append] at hm3
        simp only [List.length_cons, List.length_nil] at hm3
        omega
      subst hmi
      rw [setE_in (by omega) ht, List.getElem_append_right (by omega)]
      simp
  · rw [setE_out (.inr (by omega))]
    exact h.high m hm (by omega) t ht

theorem ObjAt.setE {w : World} {b : Nat} {t : TypeId} {cs : Array Value} (h : ObjAt w b t cs) (o : Nat) (e : Ev) : ObjAt (((w.setCell ⟨b, o, none⟩ (.int .i64 e.n)).setCell ⟨b, o + 1, none⟩ (.int .i64 e.kind)).setCell ⟨b, o + 2, none⟩ (tkey e.path)) b t (setE cs o e) :=
  ((h.set o _).set (o + 1) _).set (o + 2) _

theorem run_clear_ev (w : World) (ty : TypeId) (b o n c : Nat) (hn : 0 < n)
    (hc : ∀ j, j < n * 3 → (w.cell? ⟨b, o + j, none⟩).isSome = true) (hf : ∀ j, j < n * 3 → w.frozen? ⟨b, o + j, none⟩ = false) :
    ∃ vs : List Value, vs.length = n * 3 ∧ (Builtin.clear_ #[35] ty #[.slice (some ⟨b, o, none⟩) n c]).run Tryd.prog w = .ok (.tuple #[]) (w.setCells b o vs) := by
  have hsz : (Builtin.zeroCells (Value.agg #[.int .i64 0, .int .i64 0, .string ⟨#[]⟩]).cells n).size = n * 3 := size_zeroCells _ _
  have h1 : ∀ v ∈ (Builtin.zeroCells (Value.agg #[.int .i64 0, .int .i64 0, .string ⟨#[]⟩]).cells n).toList, v.oneCell' = true := by
    intro v hv
    simp only [Builtin.zeroCells, Array.toList_map, List.mem_map] at hv
    obtain ⟨i, -, rfl⟩ := hv
    show ((#[Value.int .i64 0, .int .i64 0, .string ⟨#[]⟩] : Array Value)[i % 3]!).oneCell' = true
    have : i % 3 = 0 ∨ i % 3 = 1 ∨ i % 3 = 2 := by omega
    rcases this with e | e | e <;> rw [e] <;> rfl
  have hst := run_storeCells_cells (P := Tryd.prog) b o (Builtin.zeroCells (Value.agg #[.int .i64 0, .int .i64 0, .string ⟨#[]⟩]).cells n).toList 0 w (by intro j hj; rw [Array.length_toList, hsz] at hj; exact hc j hj) (by intro j hj; rw [Array.length_toList, hsz] at hj; exact hf j hj) h1
  simp only [Nat.add_zero] at hst
  refine ⟨(Builtin.zeroCells (Value.agg #[.int .i64 0, .int .i64 0, .string ⟨#[]⟩]).cells n).toList, by rw [Array.length_toList]; exact hsz, ?_⟩
  have hv : ∀ w, (zeroValue 38).run Tryd.prog w = .ok (.agg #[.int .i64 0, .int .i64 0, .string ⟨#[]⟩]) w := fun w => by kernel_rfl
  obtain ⟨m, rfl⟩ : ∃ m, n = m + 1 := ⟨n - 1, by omega⟩
  simp [Builtin.clear_, run_underlying Tryd.underlying35, hv, hst]

set_option maxHeartbeats 1000000 in
theorem ack_fn (e : Ev) (n : Int) (nb : Nat) (w : World) (hn : w.cell? ⟨nb, 0, none⟩ = some (.int .i64 n)) : Calls Tryd.prog 36 #[.agg #[.int .i64 e.n, .int .i64 e.kind, tkey e.path], .pointer (some ⟨nb, 0, none⟩)] w fun r w' => r = .returned (.bool (decide (e.n ≤ n))) ∧ Below w.heap.size w w' := by
  have HB := hid (below_new (w := w) (.cells #[.int .i64 e.n, .int .i64 e.kind, tkey e.path] 38))
  have hn2 := HB.out.cell (p := ⟨nb, 0, none⟩) (lt_of_cell hn)
  rw [hn] at hn2
  go_enter Tryd.func36, Tryd.ntmps36
  go_wp2_with fail
  go_ret
  exact ⟨rfl, HB.out⟩
end Go.Proofs.YtjnbflhpboheiaaDoor
