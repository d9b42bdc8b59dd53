/-
  Maps with plain keys (texts, ints): what lies in the block of a map, as a list of entries; look-up, store, delete, len.
-/
import Derived.Test.YteiifligdfnifaaDoorObj
namespace Go.Proofs.YteiifligdfnifaaDoor
open Go.RowKit

/-- The value at a key. -/
def look {κ : Type} [DecidableEq κ] (l : List (κ × Value)) (k : κ) : Option Value := (l.find? fun p => p.1 == k).map Prod.snd
/-- The entries behind a store. -/
def upd {κ : Type} [DecidableEq κ] (l : List (κ × Value)) (k : κ) (v : Value) : List (κ × Value) := match l.findIdx? (fun p => p.1 == k) with | some j => l.set j (k, v) | none => l ++ [(k, v)]
/-- The entries behind a delete. -/
def del {κ : Type} [DecidableEq κ] (l : List (κ × Value)) (k : κ) : List (κ × Value) := match l.findIdx? (fun p => p.1 == k) with | some j => l.eraseIdx j | none => l

/-- A kind of keys: each can be asked for, and is found just where it lies. -/
structure KeyOk (P : Program) (t : TypeId) {κ : Type} [DecidableEq κ] (enc : κ → Value) : Prop where
  check : ∀ (e : Bool) (k : κ) (w : World), (Instr.checkKey e 10000 t (enc k)).run P w = .ok () w
  find : ∀ (k : κ) (es : List MapEntry) (l : List (κ × Value)), es.map (fun e => (e.key, e.val)) = l.map (fun p => (enc p.1, p.2)) → ∀ w : World, (Instr.findKey t (enc k) es).run P w = .ok ((l.findIdx? fun p => p.1 == k).bind fun j => (l[j]?).map fun p => (j, p.2)) w
  bits : ∀ a, Instr.sameBits 10000 (enc a) (enc a) = true

theorem findNow_eq {κ : Type} [DecidableEq κ] {enc : κ → Value} {d : TypeDesc} (hd : ∀ a b, Instr.sameNow d (enc a) (enc b) = some (a == b)) (k : κ) : ∀ (es : List MapEntry) (l : List (κ × Value)) (i : Nat), es.map (fun e => (e.key, e.val)) = l.map (fun p => (enc p.1, p.2)) →
    Instr.findNow d (enc k) es i = some ((l.findIdx? fun p => p.1 == k).bind fun j => (l[j]?).map fun p => (i + j, p.2))
  | [], [], _, _ => rfl
  | [], p :: l, _, h => by simp at h
  | e :: es, [], _, h => by simp at h
  | e :: es, p :: l, i, h => by
    simp only [List.map_cons, List.cons.injEq, Prod.mk.injEq] at h
    obtain ⟨⟨h1, h2⟩, h3⟩ := h
    rw [Instr.findNow, h1, hd]
    by_cases hk : k = p.1
    · subst hk
      simp [List.findIdx?_cons, h2]
    · have e1 : (k == p.1) = false := by simpa using hk
      have e2 : (p.1 == k) = false := by simpa using fun h => hk h.symm
      rw [e1]
      simp only
      rw [findNow_eq hd k es l (i + 1) h3, List.findIdx?_cons, e2]
      cases hf : l.findIdx? (fun p => p.1 == k) with
      | none => simp
      | some j => simp; congr; funext x; congr 1; omega
/-- A kind of plain keys. -/
theorem KeyOk.plain {P : Program} {t : TypeId} {κ : Type} [DecidableEq κ] {enc : κ → Value} {d : TypeDesc} (hd : P.underlying t = some d) (hs : ∀ a b, Instr.sameNow d (enc a) (enc b) = some (a == b)) (h1 : ∀ ms, d ≠ .interface ms) (h2 : ∀ n e, d ≠ .array n e) (h3 : ∀ fs, d ≠ .struct fs) (hb : ∀ a, Instr.sameBits 10000 (enc a) (enc a) = true) : KeyOk P t enc := by
  refine ⟨fun e k w => ?_, fun k es l he w => ?_, hb⟩
  · rw [show (10000 : Nat) = 9999 + 1 from rfl, Instr.checkKey]
    simp only [Sem.run_bind, run_underlying hd, Result.andThen]
    cases d with
    | interface ms => exact absurd rfl (h1 ms)
    | array n e => exact absurd rfl (h2 n e)
    | struct fs => exact absurd rfl (h3 fs)
    | _ => rfl
  · unfold Instr.findKey
    simp only [Sem.run_bind, run_underlying hd, Result.andThen, findNow_eq hs k es l 0 he, Nat.zero_add]
    rfl
theorem KeyOk.int {P : Program} {t : TypeId} {q : IntKind} (h : P.underlying t = some (.int q)) : KeyOk P t (fun n : Int => Value.int q n) :=
  KeyOk.plain h (fun a b => by simp [Instr.sameNow]) (by simp) (by simp) (by simp) (fun a => by simp [Instr.sameBits])
/-- A text as a key. -/
abbrev tkey (s : List UInt8) : Value := .string ⟨s.toArray⟩
theorem bytes_beq (a b : List UInt8) : ((ByteArray.mk a.toArray) == (ByteArray.mk b.toArray)) = (a == b) := by
  have e : ((ByteArray.mk a.toArray) == (ByteArray.mk b.toArray)) = (a.toArray == b.toArray) := rfl
  rw [e, Bool.eq_iff_iff, beq_iff_eq, beq_iff_eq]
  constructor
  · intro h; exact congrArg Array.toList h
  · intro h; rw [h]
theorem beq_dec (a b : List UInt8) : (a == b) = decide (a = b) := by
  by_cases h : a = b
  · subst h; simp
  · simp [h]
theorem KeyOk.text {P : Program} {t : TypeId} (h : P.underlying t = some .string) : KeyOk P t tkey :=
  KeyOk.plain h (fun a b => by show some _ = some _; rw [bytes_beq]; exact congrArg some (beq_dec a b)) (by simp) (by simp) (by simp) (fun a => by show (_ == _) = true; rw [bytes_beq]; exact beq_self_eq_true a)

/-- The block m is a map with these entries. -/
def MapAt (w : World) (m : Nat) {κ : Type} (enc : κ → Value) (l : List (κ × Value)) : Prop :=
  ∃ arr clock, w.heap[m]? = some (.map arr clock) ∧ arr.toList.map (fun e => (e.key, e.val)) = l.map (fun p => (enc p.1, p.2)) ∧ (∀ e ∈ arr.toList, e.born < clock) ∧ (arr.toList.map (·.born)).Nodup ∧ (l.map (·.1)).Nodup

theorem MapAt.lt {w : World} {m : Nat} {κ : Type} {enc : κ → Value} {l : List (κ × Value)} (h : MapAt w m enc l) : m < w.heap.size := by
  obtain ⟨arr, clock, h, _⟩ := h
  exact (Array.getElem?_eq_some_iff.mp h).1
theorem MapAt.below {w w' : World} {m : Nat} {κ : Type} {enc : κ → Value} {l : List (κ × Value)} (h : MapAt w m enc l) (hb : Below w.heap.size w w') : MapAt w' m enc l := by
  have hl := h.lt
  obtain ⟨arr, clock, h1, h2⟩ := h
  exact ⟨arr, clock, by rw [hb.block m hl]; exact h1, h2⟩
theorem MapAt.new (w : World) {κ : Type} (enc : κ → Value) : MapAt (w.alloc (.map #[] 0)) w.heap.size enc [] :=
  ⟨#[], 0, heap_alloc_new w _, rfl, by simp, by simp, by simp⟩

theorem MapAt.kept {w w' : World} {m b' : Nat} {κ : Type} {enc : κ → Value} {l : List (κ × Value)} (h : MapAt w m enc l) (hk : Kept w.heap.size b' w w') (hn : m ≠ b') : MapAt w' m enc l := by
  have hl := h.lt
  obtain ⟨arr, clock, h1, h2⟩ := h
  exact ⟨arr, clock, by rw [hk.block m hl hn]; exact h1, h2⟩
/-- How many entries. -/
theorem run_len {P : Program} {mt kt et : TypeId} (hm : P.underlying mt = some (.map kt et)) {w : World} {m : Nat} {κ : Type} {enc : κ → Value} {l : List (κ × Value)} (h : MapAt w m enc l) (t2 : TypeId) :
    (Builtin.len_ #[mt] t2 #[.map (some m)]).run P w = .ok (.int .i64 l.length) w := by
  obtain ⟨arr, clock, hb, he, _⟩ := h
  have hl : arr.size = l.length := by
    have := congrArg List.length he
    simpa using this
  unfold Builtin.len_
  simp [Sem.run_bind, run_underlying hm, Result.andThen, getObj, Sem.run, hb, goInt, hl]

section
variable {P : Program} {t : TypeId} {κ : Type} [DecidableEq κ] {enc : κ → Value}

theorem look_idx (l : List (κ × Value)) (k : κ) : look l k = (l.findIdx? fun p => p.1 == k).bind fun j => (l[j]?).map Prod.snd := by
  unfold look
  induction l with
  | nil => rfl
  | cons p l ih =>
    rw [List.find?_cons, List.findIdx?_cons]
    by_cases h : (p.1 == k) = true
    · simp [h]
    · have h' : (p.1 == k) = false := by simpa using h
      rw [h']
      simp only [ih]
      cases hf : l.findIdx? (fun p => p.1 == k) <;> simp

theorem run_checkKey (hk : KeyOk P t enc) (e : Bool) (k : κ) (w : World) : (Instr.checkKey e 10000 t (enc k)).run P w = .ok () w := hk.check e k w
theorem run_findKey (hk : KeyOk P t enc) (k : κ) {es : List MapEntry} {l : List (κ × Value)} (he : es.map (fun e => (e.key, e.val)) = l.map (fun p => (enc p.1, p.2))) (w : World) :
    (Instr.findKey t (enc k) es).run P w = .ok ((l.findIdx? fun p => p.1 == k).bind fun j => (l[j]?).map fun p => (j, p.2)) w := hk.find k es l he w

/-- m[k] and v, ok := m[k]. -/
theorem run_look {mt et : TypeId} (hm : P.underlying mt = some (.map t et)) (hk : KeyOk P t enc) {w : World} {m : Nat} {l : List (κ × Value)} (h : MapAt w m enc l) (k : κ) (z : Value) (hz : (zeroValue et).run P w = .ok z w) (ok : Bool) :
    (Instr.lookup mt (.map (some m)) (enc k) ok).run P w = .ok (if ok then .tuple #[(look l k).getD z, .bool (look l k).isSome] else (look l k).getD z) w := by
  obtain ⟨arr, clock, hb, he, _⟩ := h
  unfold Instr.lookup
  simp only [Sem.run_bind, run_underlying hm, Result.andThen, getObj, Sem.run, hb, run_checkKey hk]
  rw [show (Sem.run P (pure arr : Sem (Array MapEntry)) w) = .ok arr w from rfl]
  dsimp only
  rw [run_findKey hk k he, look_idx]
  cases hf : l.findIdx? (fun p => p.1 == k) with
  | none =>
    simp only [Option.bind_none, Option.getD_none, Option.isSome_none]
    cases ok <;> simp [hz, Result.andThen]
  | some j =>
    have hj : j < l.length := (List.findIdx?_eq_some_iff_getElem.1 hf).1
    cases ok <;> simp [hj]

theorem find_key {l : List (κ × Value)} {k : κ} {j : Nat} (h : l.findIdx? (fun p => p.1 == k) = some j) : ∃ hj : j < l.length, l[j].1 = k := by
  obtain ⟨hj, h1, _⟩ := List.findIdx?_eq_some_iff_getElem.1 h
  exact ⟨hj, by simpa using h1⟩
theorem find_none {l : List (κ × Value)} {k : κ} (h : l.findIdx? (fun p => p.1 == k) = none) : k ∉ l.map (·.1) := by
  intro hm
  obtain ⟨p, hp, e⟩ := List.mem_map.1 hm
  have := List.findIdx?_eq_none_iff.1 h p hp
  simp [e] at this
theorem keys_upd (l : List (κ × Value)) (k : κ) (v : Value) : (upd l k v).map (·.1) = if k ∈ l.map (·.1) then l.map (·.1) else l.map (·.1) ++ [k] := by
  unfold upd
  cases h : l.findIdx? (fun p => p.1 == k) with
  | some j =>
    obtain ⟨hj, e⟩ := find_key h
    have hm : k ∈ l.map (·.1) := List.mem_map.2 ⟨l[j], List.getElem_mem hj, e⟩
    rw [if_pos hm]
    simp only [List.map_set]
    have hj' : j < (l.map (·.1)).length := by simpa using hj
    have e2 : (l.map (·.1))[j] = k := by simpa using e
    conv => lhs; rw [← e2]
    exact List.set_getElem_self hj'
  | none =>
    rw [if_neg (find_none h)]
    simp

/-- What a map's block becomes; all else stands. -/
theorem kept_setMap {w : World} {m : Nat} {o : Obj} : Kept w.heap.size m w { w with heap := w.heap.setIfInBounds m o } :=
  ⟨rfl, rfl, rfl, by simp, fun k _ hn => by simp [Ne.symm hn]⟩

/-- m[k] = v. -/
theorem run_upd {mt et : TypeId} (hm : P.underlying mt = some (.map t et)) (hk : KeyOk P t enc) {w : World} {m : Nat} {l : List (κ × Value)} (h : MapAt w m enc l) (k : κ) (v : Value) :
    ∃ w', (Instr.mapUpdate mt (.map (some m)) (enc k) v).run P w = .ok () w' ∧ MapAt w' m enc (upd l k v) ∧ Kept w.heap.size m w w' ∧ w'.heap.size = w.heap.size ∧ w'.drawn = w.drawn := by
  have hlt := h.lt
  obtain ⟨arr, clock, hb, he, h1, h2, h3⟩ := h
  have hnd : ((upd l k v).map (·.1)).Nodup := by
    rw [keys_upd]
    split
    · exact h3
    · rename_i hn
      exact List.nodup_append.2 ⟨h3, by simp, fun a ha b hb => by simp at hb; subst hb; intro e; subst e; exact hn ha⟩
  unfold Instr.mapUpdate
  simp only [Sem.run_bind, run_underlying hm, Result.andThen, getObj, Sem.run, hb, run_checkKey hk]
  rw [run_findKey hk k he]
  unfold upd at hnd ⊢
  have hlen : arr.size = l.length := by
    have := congrArg List.length he
    simpa using this
  have hset : ∀ o, (setObj m o).run P w = .ok () { w with heap := w.heap.setIfInBounds m o } := fun o => by
    simp only [setObj, Sem.run, hb]
  cases hf : l.findIdx? (fun p => p.1 == k) with
  | none =>
    rw [hf] at hnd
    refine ⟨_, hset _, ⟨arr.push { key := enc k, val := v, born := clock }, clock + 1, ?_, ?_, ?_, ?_, hnd⟩, kept_setMap, by simp, rfl⟩
    · simp [hlt]
    · simp [he]
    · intro e hm
      simp only [Array.toList_push, List.mem_append, List.mem_singleton] at hm
      rcases hm with hm | rfl
      · have := h1 e hm; omega
      · exact Nat.lt_succ_self _
    · simp only [Array.toList_push, List.map_append, List.map_cons, List.map_nil]
      refine List.nodup_append.2 ⟨h2, by simp, fun a ha b hb => ?_⟩
      simp only [List.mem_singleton] at hb
      subst hb
      obtain ⟨e, hm, rfl⟩ := List.mem_map.1 ha
      have := h1 e hm; omega
  | some j =>
    rw [hf] at hnd
    obtain ⟨hj, e⟩ := find_key hf
    have hja : j < arr.size := by omega
    have hkey : arr[j].key = enc k := by
      have := congrArg (fun l => l[j]?) he
      simp [hja, hj, e] at this
      exact this.1
    have hst : (Instr.keyThatStays (enc k) (enc k)).run P w = .ok (enc k) w := by
      unfold Instr.keyThatStays
      rw [if_pos (hk.bits k)]; rfl
    simp only [Option.bind_some, List.getElem?_eq_getElem hj, Option.map_some, Array.getElem?_eq_getElem hja, Option.getD_some, hkey]
    rw [Sem.run_bind, hst]
    refine ⟨_, hset _, ⟨arr.modify j fun e => { e with key := enc k, val := v }, clock, ?_, ?_, ?_, ?_, hnd⟩, kept_setMap, by simp, rfl⟩
    · simp [hlt]
    · apply List.ext_getElem?
      intro i
      have hi := congrArg (fun l => l[i]?) he
      simp only [List.getElem?_map, Array.getElem?_toList] at hi ⊢
      rw [Array.getElem?_modify, List.getElem?_set]
      by_cases hij : j = i
      · subst hij
        simp [hja, hj]
      · simp [hij, hi]
    · intro e hm
      obtain ⟨i, hi, rfl⟩ := List.getElem_of_mem hm
      simp only [Array.getElem_toList, Array.getElem_modify]
      have hia : i < arr.size := by simpa using hi
      have := h1 arr[i] (by simp)
      split <;> exact this
    · have : (arr.modify j fun e => { e with key := enc k, val := v }).toList.map (·.born) = arr.toList.map (·.born) := by
        apply List.ext_getElem?
        intro i
        simp only [List.getElem?_map, Array.getElem?_toList, Array.getElem?_modify]
        split
        · rename_i hij; subst hij; simp [hja]
        · rfl
      rw [this]; exact h2

theorem look_upd (l : List (κ × Value)) (k k' : κ) (v : Value) : look (upd l k v) k' = if k' = k then some v else look l k' := by
  unfold upd
  cases hf : l.findIdx? (fun p => p.1 == k) with
  | none =>
    have hn := find_none hf
    unfold look
    rw [List.find?_append]
    by_cases hk : k' = k
    · subst hk
      have : l.find? (fun p => p.1 == k') = none := by
        rw [List.find?_eq_none]
        intro p hp e
        exact hn (List.mem_map.2 ⟨p, hp, by simpa using e⟩)
      rw [this]; simp
    · rw [if_neg hk]
      have : ([(k, v)] : List (κ × Value)).find? (fun p => p.1 == k') = none := by simp [Ne.symm hk]
      rw [this]; simp
  | some j =>
    obtain ⟨hj, e⟩ := find_key hf
    have hfirst : ∀ (i : Nat) (hi : i < l.length), i < j → (l[i].1 == k) = false := fun i hi hij => by
      have := (List.findIdx?_eq_some_iff_getElem.1 hf).2.2 i hij
      simpa using this
    clear hf
    show look (l.set j (k, v)) k' = _
    unfold look
    induction l generalizing j with
    | nil => simp at hj
    | cons p l ih =>
      cases j with
      | zero =>
        simp at e
        subst e
        by_cases hk : k' = p.1
        · subst hk; simp
        · have h' : (p.1 == k') = false := by simpa using Ne.symm hk
          simp [hk, h']
      | succ j =>
        have hp : (p.1 == k) = false := by have := hfirst 0 (by simp) (by omega); simpa using this
        have ih' := ih j (by simpa using hj) (by simpa using e) (fun i hi hij => by have := hfirst (i + 1) (by simpa using hi) (by omega); simpa using this)
        simp only [List.set_cons_succ, List.find?_cons]
        cases h' : p.1 == k' with
        | true =>
          have : k' ≠ k := by
            rintro rfl
            rw [hp] at h'; cases h'
          simp [this]
        | false => exact ih'
end
end Go.Proofs.YteiifligdfnifaaDoor
