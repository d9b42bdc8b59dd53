/-
  A table of which one file has changed, and one with a new file.
-/
import Derived.Test.YtibhkkfbhbnmeaaDsk5
namespace Go.Proofs.Ytibhkkfbhbnmeaa
open Go.RowKit Go.ChangeMaps
set_option maxRecDepth 20000
set_option linter.unusedVariables false

theorem RowOf.ne_obj {w : World} {v : Value} {l : List UInt8} {k f : Nat} {cs : Array Value} (h : RowOf w v l (some k)) (ho : ObjAt w f 69 cs) : k ≠ f := by
  rcases h with ⟨-, -, h⟩ | ⟨k', cap, cur, e, -, hg, -⟩
  · cases h
  · cases e
    exact ObjAt.ne_obj (t := 5) (t' := 69) (by exact hg) ho (by decide)
theorem RowOf.ne_map {w : World} {v : Value} {l : List UInt8} {k m : Nat} {κ : Type} {enc : κ → Value} {es : List (κ × Value)} (h : RowOf w v l (some k)) (hm : MapAt w m enc es) : k ≠ m := by
  rcases h with ⟨-, -, h⟩ | ⟨k', cap, cur, e, -, hg, -⟩
  · cases h
  · cases e
    exact ObjAt.ne_map (t := 5) (by exact hg) hm
theorem inj_nm {F : List Fl} (h : (F.map Fl.nm).Nodup) {x y : Fl} (hx : x ∈ F) (hy : y ∈ F) (e : x.nm = y.nm) : x = y := by
  induction F with
  | nil => simp at hx
  | cons z F ih =>
    simp only [List.map_cons, List.nodup_cons] at h
    rcases List.mem_cons.1 hx with rfl | hx' <;> rcases List.mem_cons.1 hy with rfl | hy'
    · rfl
    · exact absurd (List.mem_map.2 ⟨y, hy', e.symm⟩) h.1
    · exact absurd (List.mem_map.2 ⟨x, hx', e⟩) h.1
    · exact ih h.2 hx' hy'
theorem inj_f {F : List Fl} (h : (F.map Fl.f).Nodup) {x y : Fl} (hx : x ∈ F) (hy : y ∈ F) (e : x.f = y.f) : x = y := by
  induction F with
  | nil => simp at hx
  | cons z F ih =>
    simp only [List.map_cons, List.nodup_cons] at h
    rcases List.mem_cons.1 hx with rfl | hx' <;> rcases List.mem_cons.1 hy with rfl | hy'
    · rfl
    · exact absurd (List.mem_map.2 ⟨y, hy', e.symm⟩) h.1
    · exact absurd (List.mem_map.2 ⟨x, hx', e⟩) h.1
    · exact ih h.2 hx' hy'
theorem gd_mem {F : List Fl} (h : F.Pairwise fun x y => x.g = none ∨ x.g ≠ y.g) {x y : Fl} (hx : x ∈ F) (hy : y ∈ F) (hne : x ≠ y) {k : Nat} (e1 : x.g = some k) (e2 : y.g = some k) : False := by
  induction F with
  | nil => simp at hx
  | cons z F ih =>
    rw [List.pairwise_cons] at h
    rcases List.mem_cons.1 hx with rfl | hx' <;> rcases List.mem_cons.1 hy with rfl | hy'
    · exact hne rfl
    · rcases h.1 y hy' with g | g
      · rw [g] at e1; cases e1
      · exact g (e1.trans e2.symm)
    · rcases h.1 x hx' with g | g
      · rw [g] at e2; cases e2
      · exact g (e2.trans e1.symm)
    · exact ih h.2 hx' hy'

/-- One file with other bytes. -/
def setF (F : List Fl) (nm : List UInt8) (v : Value) (b : List UInt8) (g : Option Nat) (s : Nat) : List Fl := F.map fun y => if y.nm = nm then { y with v := v, b := b, g := g, safe := s } else y
theorem setF_ent (F : List Fl) (nm : List UInt8) (v : Value) (b : List UInt8) (g : Option Nat) (s : Nat) : (setF F nm v b g s).map flEnt = F.map flEnt := by
  unfold setF
  rw [List.map_map]
  refine List.map_congr_left fun y _ => ?_
  show flEnt (if y.nm = nm then _ else y) = flEnt y
  split <;> rfl
theorem setF_f (F : List Fl) (nm : List UInt8) (v : Value) (b : List UInt8) (g : Option Nat) (s : Nat) : (setF F nm v b g s).map Fl.f = F.map Fl.f := by
  unfold setF
  rw [List.map_map]
  refine List.map_congr_left fun y _ => ?_
  show Fl.f (if y.nm = nm then _ else y) = y.f
  split <;> rfl
theorem TabAt.seF {w w' : World} {m : Nat} {F : List Fl} {x : Fl} {v : Value} {b : List UInt8} {g : Option Nat} {s : Nat} (h : TabAt w m F) (hx : x ∈ F)
    (ho : ObjAt w' x.f 69 #[v, .int .i64 (s : Nat)]) (hr : RowOf w' v b g) (hk : KeptS (fun k => k = x.f ∨ x.g = some k) w w') (hg : ∀ k, g = some k → x.g = some k ∨ w.heap.size ≤ k) : TabAt w' m (setF F x.nm v b g s) := by
  have hn := h.names
  have hox := h.obj x hx
  have hrx := h.row x hx
  have hne : ∀ y ∈ F, y.nm ≠ x.nm → y.f ≠ x.f ∧ (∀ k, y.g = some k → k ≠ x.f ∧ x.g ≠ some k) ∧ x.g ≠ some y.f := fun y hy hyn => by
    have hxy : y ≠ x := fun e => hyn (by rw [e])
    refine ⟨fun e => hxy (inj_f h.fd hy hx e), fun k hk => ⟨?_, fun e => gd_mem h.gd hy hx hxy hk e⟩, fun e => ?_⟩
    · have := h.row y hy
      rw [hk] at this
      exact this.ne_obj hox
    · rw [e] at hrx
      exact hrx.ne_obj (h.obj y hy) rfl
  refine ⟨?_, fun y hy => ?_, fun y hy => ?_, by rw [setF_f]; exact h.fd, ?_⟩
  · rw [setF_ent]
    refine h.map.keptS hk (fun e => ?_)
    rcases e with e | e
    · exact hox.ne_map h.map e.symm
    · rw [e] at hrx
      exact hrx.ne_map h.map rfl
  · obtain ⟨z, hz, rfl⟩ := List.mem_map.1 hy
    by_cases e : z.nm = x.nm
    · rw [if_pos e]
      obtain rfl := inj_nm hn hz hx e
      exact ho
    · rw [if_neg e]
      obtain ⟨n1, n2, n3⟩ := hne z hz e
      exact (h.obj z hz).keptS hk (fun q => q.elim n1 n3)
  · obtain ⟨z, hz, rfl⟩ := List.mem_map.1 hy
    by_cases e : z.nm = x.nm
    · rw [if_pos e]; exact hr
    · rw [if_neg e]
      obtain ⟨n1, n2, n3⟩ := hne z hz e
      exact (h.row z hz).keptS hk (fun k hk q => q.elim (n2 k hk).1 (n2 k hk).2)
  · unfold setF
    rw [List.pairwise_map]
    have hnd : F.Pairwise fun a b => a.nm ≠ b.nm := by
      have := hn
      unfold List.Nodup at this
      rwa [List.pairwise_map] at this
    refine (h.gd.and hnd).imp_of_mem fun {a c} ha hc hac => ?_
    by_cases e1 : a.nm = x.nm
    · rw [if_pos e1]
      have e2 : c.nm ≠ x.nm := fun e => hac.2 (e1.trans e.symm)
      rw [if_neg e2]
      show g = none ∨ g ≠ c.g
      cases hgg : g with
      | none => exact .inl rfl
      | some k =>
        refine .inr fun e => ?_
        rcases hg k hgg with q | q
        · exact ((hne c hc e2).2.1 k e.symm).2 q
        · have := (h.row c hc).lt k e.symm; omega
    · rw [if_neg e1]
      by_cases e2 : c.nm = x.nm
      · rw [if_pos e2]
        show a.g = none ∨ a.g ≠ g
        cases hag : a.g with
        | none => exact .inl rfl
        | some k =>
          refine .inr fun e => ?_
          rcases hg k e.symm with q | q
          · exact ((hne a ha e1).2.1 k hag).2 q
          · have := (h.row a ha).lt k hag; omega
      · rw [if_neg e2]; exact hac.1
theorem setF_has {m : Nat} {F : List Fl} {x : Fl} {v : Value} {b : List UInt8} {g : Option Nat} {s n : Nat} (hx : x ∈ F) (hg : ∀ k, g = some k → x.g = some k ∨ n ≤ k) : ∀ k, TabHas m (setF F x.nm v b g s) k → TabHas m F k ∨ n ≤ k := by
  rintro k (h | ⟨y, hy, h⟩)
  · exact .inl (.inl h)
  · obtain ⟨z, hz, rfl⟩ := List.mem_map.1 hy
    by_cases e : z.nm = x.nm
    · rw [if_pos e] at h
      rcases h with h | h
      · exact .inl (.inr ⟨z, hz, .inl h⟩)
      · rcases hg k h with q | q
        · exact .inl (.inr ⟨x, hx, .inr q⟩)
        · exact .inr q
    · rw [if_neg e] at h
      exact .inl (.inr ⟨z, hz, h⟩)
/-- A new file behind the others. -/
theorem TabAt.push {w w' : World} {m : Nat} {F : List Fl} {x : Fl} (h : TabAt w m F) (hm : MapAt w' m tkey (F.map flEnt ++ [flEnt x])) (hk : KeptS (fun k => k = m) w w') (ho : ObjAt w' x.f 69 #[x.v, .int .i64 (x.safe : Nat)]) (hr : RowOf w' x.v x.b x.g)
    (hf : w.heap.size ≤ x.f) (hg : x.g = none) : TabAt w' m (F ++ [x]) := by
  refine ⟨by rw [List.map_append]; exact hm, fun y hy => ?_, fun y hy => ?_, ?_, ?_⟩
  · rcases List.mem_append.1 hy with hy | hy
    · exact (h.obj y hy).keptS hk (fun e => (h.obj y hy).ne_map h.map e)
    · rw [List.mem_singleton.1 hy]; exact ho
  · rcases List.mem_append.1 hy with hy | hy
    · exact (h.row y hy).keptS hk (fun k e q => by
        have := h.row y hy
        rw [e] at this
        exact this.ne_map h.map q)
    · rw [List.mem_singleton.1 hy]; exact hr
  · rw [List.map_append]
    refine List.nodup_append.2 ⟨h.fd, by simp, fun a ha b hb e => ?_⟩
    obtain ⟨y, hy, rfl⟩ := List.mem_map.1 ha
    simp only [List.map_cons, List.map_nil, List.mem_singleton] at hb
    have := (h.obj y hy).lt
    omega
  · refine List.pairwise_append.2 ⟨h.gd, by simp, fun a ha b hb => ?_⟩
    rw [List.mem_singleton.1 hb, hg]
    cases hag : a.g with
    | none => exact .inl rfl
    | some k => exact .inr (by simp)

/-- A disk's state, without memory: names, bytes, how many are safe. -/
abbrev Ab := List UInt8 × List UInt8 × Nat
def abs (F : List Fl) : List Ab := F.map fun x => (x.nm, x.b, x.safe)
def setA (A : List Ab) (nm : List UInt8) (b : List UInt8) (s : Nat) : List Ab := A.map fun a => if a.1 = nm then (a.1, b, s) else a
theorem abs_setF (F : List Fl) (nm : List UInt8) (v : Value) (b : List UInt8) (g : Option Nat) (s : Nat) : abs (setF F nm v b g s) = setA (abs F) nm b s := by
  unfold abs setF setA
  rw [List.map_map, List.map_map]
  refine List.map_congr_left fun y _ => ?_
  show (fun x : Fl => (x.nm, x.b, x.safe)) (if y.nm = nm then _ else y) = if y.nm = nm then _ else _
  split <;> rfl
/-- What a call may have changed. -/
def Moved (w w' : World) (m : Nat) (F F' : List Fl) : Prop := (∀ k, TabHas m F' k → TabHas m F k ∨ w.heap.size ≤ k) ∧ KeptS (TabHas m F) w w'
theorem Moved.refl (w : World) (m : Nat) (F : List Fl) : Moved w w m F F := ⟨fun k h => .inl h, KeptS.refl _ _⟩
theorem Moved.below {w w' : World} {m : Nat} {F : List Fl} (h : Below w.heap.size w w') : Moved w w' m F F := ⟨fun k h => .inl h, KeptS.of_below h⟩
theorem Moved.trans {a b c : World} {m : Nat} {F G H : List Fl} (h : Moved a b m F G) (k : Moved b c m G H) : Moved a c m F H := by
  refine ⟨fun i hi => ?_, h.2.trans k.2 (fun i hi e => ?_)⟩
  · rcases k.1 i hi with q | q
    · exact h.1 i q
    · exact .inr (Nat.le_trans h.2.size q)
  · rcases h.1 i e with q | q
    · exact q
    · omega
end Go.Proofs.Ytibhkkfbhbnmeaa
