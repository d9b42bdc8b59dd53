/-
  Package watch: a hub; what lies in memory.
-/
import Derived.Test.YtjnbflhpboheiaaDoorMapM
import Derived.Test.YtjnbflhpboheiaaDoorMapU
import Derived.Test.YtjnbflhpboheiaaDoorOwn
namespace Go.Proofs.YtjnbflhpboheiaaDoor
open Go.RowKit
set_option maxRecDepth 20000
set_option linter.unusedVariables false

/-- An event. -/
structure Ev where
  n : Int
  kind : Int
  path : List UInt8
deriving DecidableEq
def evC (e : Ev) : List Value := [.int .i64 e.n, .int .i64 e.kind, tkey e.path]
/-- What a session has: its events, how far they are acknowledged, the last one, its watches. -/
structure Da where
  key : List UInt8 × Int
  ev : List Ev
  acked : Int
  last : Int
  marks : List (List UInt8 × Int)
/-- The same in memory. -/
structure Dk where
  db : Nat
  mb : Nat
  v : Value
  a : Da
def dEnt (d : Dk) : (List UInt8 × Int) × Value := (d.a.key, .pointer (some ⟨d.db, 0, none⟩))
def mEnt (m : List UInt8 × Int) : (List UInt8 × Int) × Value := (m, .int .i64 1)
structure DkAt (w : World) (d : Dk) : Prop where
  obj : ObjAt w d.db 67 #[d.v, .int .i64 d.a.acked, .int .i64 d.a.last, .map (some d.mb)]
  marks : MapAt w d.mb skey (d.a.marks.map mEnt)
  row : w.ownsRow 0 38 3 d.v d.a.ev.length (d.a.ev.flatMap evC)
structure HubT (w : World) (hb mh : Nat) (D : List Dk) : Prop where
  hub : ObjAt w hb 55 #[.map (some mh)]
  map : MapAt w mh skey (D.map dEnt)
  ds : ∀ d ∈ D, DkAt w d
  nb : (D.map Dk.db).Nodup
  nm : (D.map Dk.mb).Nodup
  ne : ∀ d ∈ D, d.mb ≠ mh
  rows : D.Pairwise fun x y => x.v.ownBlock = none ∨ x.v.ownBlock ≠ y.v.ownBlock
/-- Which blocks a desk has. -/
def DkHas (d : Dk) (k : Nat) : Prop := k = d.db ∨ k = d.mb ∨ d.v.ownBlock = some k
/-- Which blocks a hub has. -/
def HubHas (hb mh : Nat) (D : List Dk) (k : Nat) : Prop := k = hb ∨ k = mh ∨ ∃ d ∈ D, DkHas d k
theorem DkAt.keptS {S : Nat → Prop} {w w' : World} {d : Dk} (a : DkAt w d) (hk : KeptS S w w') (hn : ∀ k, DkHas d k → ¬ S k) : DkAt w' d :=
  ⟨a.obj.keptS hk (hn _ (.inl rfl)), a.marks.keptS hk (hn _ (.inr (.inl rfl))), own_keptS a.row hk (fun g e => hn _ (.inr (.inr e)))⟩
theorem HubT.keptS {S : Nat → Prop} {w w' : World} {hb mh : Nat} {D : List Dk} (h : HubT w hb mh D) (hk : KeptS S w w') (hn : ∀ k, HubHas hb mh D k → ¬ S k) : HubT w' hb mh D :=
  ⟨h.hub.keptS hk (hn _ (.inl rfl)), h.map.keptS hk (hn _ (.inr (.inl rfl))), fun d hd => (h.ds d hd).keptS hk (fun k e => hn k (.inr (.inr ⟨d, hd, e⟩))), h.nb, h.nm, h.ne, h.rows⟩
theorem HubT.below {w w' : World} {hb mh : Nat} {D : List Dk} (h : HubT w hb mh D) (k : Below w.heap.size w w') : HubT w' hb mh D :=
  h.keptS (S := fun _ => False) (KeptS.of_below k) (fun _ _ h => h)
theorem DkAt.lt {w : World} {d : Dk} (a : DkAt w d) : ∀ k, DkHas d k → k < w.heap.size := by
  rintro k (rfl | rfl | e)
  · exact a.obj.lt
  · exact a.marks.lt
  · exact (own_lt a.row k e).2
theorem HubT.lt {w : World} {hb mh : Nat} {D : List Dk} (h : HubT w hb mh D) : ∀ k, HubHas hb mh D k → k < w.heap.size := by
  rintro k (rfl | rfl | ⟨d, hd, e⟩)
  · exact h.hub.lt
  · exact h.map.lt
  · exact (h.ds d hd).lt k e
theorem HubT.keys {w : World} {hb mh : Nat} {D : List Dk} (h : HubT w hb mh D) : (D.map fun d => d.a.key).Nodup := by
  obtain ⟨_, _, _, _, _, _, hn⟩ := h.map
  rw [List.map_map] at hn; exact hn
theorem DkAt.nodup {w : World} {d : Dk} (a : DkAt w d) : d.a.marks.Nodup := by
  obtain ⟨_, _, _, _, _, _, hn⟩ := a.marks
  rw [List.map_map] at hn
  have e : d.a.marks.map ((fun x : (List UInt8 × Int) × Value => x.1) ∘ mEnt) = d.a.marks := (List.map_congr_left (fun _ _ => rfl)).trans (List.map_id _)
  rw [e] at hn; exact hn
/-- The block of a row of events is none of the others. -/
theorem own_obj {w : World} {base : Nat} {e : TypeId} {size n : Nat} {v : Value} {xs : List Value} (h : w.ownsRow base e size v n xs) {g : Nat} (hg : v.ownBlock = some g) : ∃ cur, ObjAt w g e cur := by
  obtain ⟨h1, h2⟩ := h
  rcases h2 with ⟨rfl, -⟩ | ⟨g', cap, cur, rfl, -, hgo, -⟩
  · simp [Value.ownBlock] at hg
  · have : g' = g := by simpa [Value.ownBlock] using hg
    subst this
    exact ⟨cur, hgo⟩
theorem desk_ne : 67 ≠ 38 := by decide
theorem hub_ne : 55 ≠ 67 := by decide
theorem hub_ev : 55 ≠ 38 := by decide
theorem HubT.apart {w : World} {hb mh : Nat} {D : List Dk} (h : HubT w hb mh D) {x y : Dk} (hx : x ∈ D) (hy : y ∈ D) (hn : y.a.key ≠ x.a.key) : ∀ k, DkHas y k → ¬ DkHas x k := by
  have ax := h.ds x hx
  have ay := h.ds y hy
  have hxy : y ≠ x := fun e => hn (by rw [e])
  rintro k (rfl | rfl | e1) (e | e | e)
  · exact hxy (inj_of_nodup h.nb hy hx e)
  · exact ay.obj.ne_map ax.marks e
  · obtain ⟨cur, ho⟩ := own_obj ax.row e
    exact ay.obj.ne_obj ho desk_ne rfl
  · exact ax.obj.ne_map ay.marks e.symm
  · exact hxy (inj_of_nodup h.nm hy hx e)
  · obtain ⟨cur, ho⟩ := own_obj ax.row e
    exact ho.ne_map ay.marks rfl
  · obtain ⟨cur, ho⟩ := own_obj ay.row e1
    exact ax.obj.ne_obj ho desk_ne e.symm
  · obtain ⟨cur, ho⟩ := own_obj ay.row e1
    exact ho.ne_map ax.marks e
  · have hp := h.rows
    have : ∀ l : List Dk, l.Pairwise (fun x y => x.v.ownBlock = none ∨ x.v.ownBlock ≠ y.v.ownBlock) → x ∈ l → y ∈ l → False := by
      intro l
      induction l with
      | nil => intro _ hx; simp at hx
      | cons z l ih =>
        intro hp hx hy
        rw [List.pairwise_cons] at hp
        rcases List.mem_cons.1 hx with rfl | hx' <;> rcases List.mem_cons.1 hy with rfl | hy'
        · exact hxy rfl
        · rcases hp.1 y hy' with q | q
          · rw [q] at e; cases e
          · exact q (e.trans e1.symm)
        · rcases hp.1 x hx' with q | q
          · rw [q] at e1; cases e1
          · exact q (e1.trans e.symm)
        · exact ih hp.2 hx' hy'
    exact this D hp hx hy
/-- One desk changed. -/
def setD (D : List Dk) (x : Dk) : List Dk := D.map fun y => if y.a.key = x.a.key then x else y
theorem setD_map {β : Type} (f : Dk → β) {D : List Dk} {x x' : Dk} (hn : (D.map fun d => d.a.key).Nodup) (hx : x ∈ D) (en : x'.a.key = x.a.key) (ef : f x' = f x) : (setD D x').map f = D.map f := by
  unfold setD
  rw [List.map_map]
  refine List.map_congr_left fun y hy => ?_
  show f (if y.a.key = x'.a.key then _ else y) = f y
  split
  · rename_i e
    rw [inj_of_nodup hn hy hx (e.trans en), ef]
  · rfl
theorem HubT.putD {w w' : World} {hb mh : Nat} {D : List Dk} {x x' : Dk} (h : HubT w hb mh D) (hx : x ∈ D) (en : x'.a.key = x.a.key) (eb : x'.db = x.db) (em : x'.mb = x.mb) (ha : DkAt w' x') (hk : KeptS (DkHas x) w w') (hg : ∀ k, x'.v.ownBlock = some k → x.v.ownBlock = some k ∨ w.heap.size ≤ k) : HubT w' hb mh (setD D x') := by
  have ax := h.ds x hx
  have hmem : ∀ y ∈ setD D x', y = x' ∨ y ∈ D ∧ y.a.key ≠ x.a.key := fun y hy => by
    obtain ⟨z, hz, rfl⟩ := List.mem_map.1 hy
    by_cases e : z.a.key = x'.a.key
    · rw [if_pos e]; exact .inl rfl
    · rw [if_neg e]; exact .inr ⟨hz, by rw [← en]; exact e⟩
  refine ⟨h.hub.keptS hk ?_, ?_, fun y hy => ?_, ?_, ?_, fun y hy => ?_, ?_⟩
  · rintro (e | e | e)
    · exact h.hub.ne_obj ax.obj hub_ne e
    · exact h.hub.ne_map ax.marks e
    · obtain ⟨cur, ho⟩ := own_obj ax.row e
      exact h.hub.ne_obj ho hub_ev rfl
  · rw [setD_map dEnt h.keys hx en (by unfold dEnt; rw [en, eb])]
    refine h.map.keptS hk ?_
    rintro (e | e | e)
    · exact ax.obj.ne_map h.map e.symm
    · exact h.ne x hx e.symm
    · obtain ⟨cur, ho⟩ := own_obj ax.row e
      exact ho.ne_map h.map rfl
  · rcases hmem y hy with rfl | ⟨hy, e⟩
    · exact ha
    · exact (h.ds y hy).keptS hk (h.apart hx hy e)
  · rw [setD_map Dk.db h.keys hx en eb]; exact h.nb
  · rw [setD_map Dk.mb h.keys hx en em]; exact h.nm
  · rcases hmem y hy with rfl | ⟨hy, e⟩
    · rw [em]; exact h.ne x hx
    · exact h.ne y hy
  · have hnew : ∀ y ∈ D, y.a.key ≠ x.a.key → ∀ k, y.v.ownBlock = some k → x'.v.ownBlock ≠ some k := fun y hy e k e1 e2 => by
      rcases hg k e2 with q | q
      · exact h.apart hx hy e k (.inr (.inr e1)) (.inr (.inr q))
      · have := (h.ds y hy).lt k (.inr (.inr e1)); omega
    unfold setD
    rw [List.pairwise_map]
    have hnd : D.Pairwise fun a b => a.a.key ≠ b.a.key := by
      have := h.keys
      unfold List.Nodup at this
      rwa [List.pairwise_map] at this
    refine (h.rows.and hnd).imp_of_mem fun {a c} ha hc hac => ?_
    by_cases e1 : a.a.key = x'.a.key
    · rw [if_pos e1]
      have e2 : c.a.key ≠ x'.a.key := fun e => hac.2 (e1.trans e.symm)
      rw [if_neg e2]
      cases hcg : c.v.ownBlock with
      | none =>
        cases hx'g : x'.v.ownBlock with
        | none => exact .inl rfl
        | some k => exact .inr (by simp)
      | some k => exact .inr (hnew c hc (by rw [← en]; exact e2) k hcg)
    · rw [if_neg e1]
      by_cases e2 : c.a.key = x'.a.key
      · rw [if_pos e2]
        cases hag : a.v.ownBlock with
        | none => exact .inl rfl
        | some k => exact .inr fun e => hnew a ha (by rw [← en]; exact e1) k hag e.symm
      · rw [if_neg e2]; exact hac.1
/-- What a call may have changed. -/
def MovedH (w w' : World) (hb mh : Nat) (D D' : List Dk) : Prop := (∀ k, HubHas hb mh D' k → HubHas hb mh D k ∨ w.heap.size ≤ k) ∧ KeptS (HubHas hb mh D) w w'
theorem MovedH.refl (w : World) (hb mh : Nat) (D : List Dk) : MovedH w w hb mh D D := ⟨fun k h => .inl h, KeptS.refl _ _⟩
theorem MovedH.below {w w' : World} {hb mh : Nat} {D : List Dk} (h : Below w.heap.size w w') : MovedH w w' hb mh D D := ⟨fun k h => .inl h, KeptS.of_below h⟩
theorem MovedH.trans {a b c : World} {hb mh : Nat} {F G H : List Dk} (h : MovedH a b hb mh F G) (k : MovedH b c hb mh G H) : MovedH a c hb mh F H := by
  refine ⟨fun i hi => ?_, h.2.trans k.2 (fun i hi e => ?_)⟩
  · rcases k.1 i hi with q | q
    · exact h.1 i q
    · exact .inr (Nat.le_trans h.2.size q)
  · rcases h.1 i e with q | q
    · exact q
    · omega
theorem MovedH.putD {w w' : World} {hb mh : Nat} {D : List Dk} {x x' : Dk} (hx : x ∈ D) (eb : x'.db = x.db) (em : x'.mb = x.mb) (hk : KeptS (DkHas x) w w') (hg : ∀ k, x'.v.ownBlock = some k → x.v.ownBlock = some k ∨ w.heap.size ≤ k) : MovedH w w' hb mh D (setD D x') := by
  refine ⟨?_, hk.imp fun k e => .inr (.inr ⟨x, hx, e⟩)⟩
  rintro k (h | h | ⟨y, hy, h⟩)
  · exact .inl (.inl h)
  · exact .inl (.inr (.inl h))
  · obtain ⟨z, hz, rfl⟩ := List.mem_map.1 hy
    by_cases e : z.a.key = x'.a.key
    · rw [if_pos e] at h
      rcases h with h | h | h
      · exact .inl (.inr (.inr ⟨x, hx, .inl (h.trans eb)⟩))
      · exact .inl (.inr (.inr ⟨x, hx, .inr (.inl (h.trans em))⟩))
      · rcases hg k h with q | q
        · exact .inl (.inr (.inr ⟨x, hx, .inr (.inr q)⟩))
        · exact .inr q
    · rw [if_neg e] at h
      exact .inl (.inr (.inr ⟨z, hz, h⟩))
/-- A new desk. -/
theorem HubT.push {w w' : World} {hb mh : Nat} {D : List Dk} {x : Dk} (h : HubT w hb mh D) (a : DkAt w x) (hk : Kept w.heap.size mh w w') (hm : MapAt w' mh skey (D.map dEnt ++ [dEnt x])) (n1 : ¬ HubHas hb mh D x.db) (n2 : ¬ HubHas hb mh D x.mb) (n3 : x.v.ownBlock = none) : HubT w' hb mh (D ++ [x]) := by
  have keep : ∀ y, DkAt w y → y.mb ≠ mh → DkAt w' y := fun y ay ny => ay.keptS (KeptS.of_kept (S := fun k => k = mh) hk rfl) (by
    rintro k (rfl | rfl | e1) e
    · exact ay.obj.ne_map h.map e
    · exact ny e
    · obtain ⟨cur, ho⟩ := own_obj ay.row e1
      exact ho.ne_map h.map e)
  refine ⟨h.hub.kept hk (h.hub.ne_map h.map), by rw [List.map_append]; exact hm, fun y hy => ?_, ?_, ?_, fun y hy => ?_, ?_⟩
  · rcases List.mem_append.1 hy with hy | hy
    · exact keep y (h.ds y hy) (h.ne y hy)
    · rw [List.mem_singleton.1 hy]; exact keep x a (fun e => n2 (.inr (.inl e)))
  · rw [List.map_append]
    refine List.nodup_append.2 ⟨h.nb, by simp, fun p hp q hq e => ?_⟩
    obtain ⟨y, hy, rfl⟩ := List.mem_map.1 hp
    simp only [List.map_cons, List.map_nil, List.mem_singleton] at hq
    exact n1 (.inr (.inr ⟨y, hy, .inl (by rw [← hq, e])⟩))
  · rw [List.map_append]
    refine List.nodup_append.2 ⟨h.nm, by simp, fun p hp q hq e => ?_⟩
    obtain ⟨y, hy, rfl⟩ := List.mem_map.1 hp
    simp only [List.map_cons, List.map_nil, List.mem_singleton] at hq
    exact n2 (.inr (.inr ⟨y, hy, .inr (.inl (by rw [← hq, e]))⟩))
  · rcases List.mem_append.1 hy with hy | hy
    · exact h.ne y hy
    · rw [List.mem_singleton.1 hy]; exact fun e => n2 (.inr (.inl e))
  · refine List.pairwise_append.2 ⟨h.rows, by simp, fun p hp q hq => ?_⟩
    rw [List.mem_singleton.1 hq, n3]
    cases hpg : p.v.ownBlock with
    | none => exact .inl rfl
    | some k => exact .inr (by simp)
/-- The desks as they read. -/
def absD (D : List Dk) : List Da := D.map Dk.a
def setA (A : List Da) (x : Da) : List Da := A.map fun y => if y.key = x.key then x else y
theorem abs_setD (D : List Dk) (x : Dk) : absD (setD D x) = setA (absD D) x.a := by
  unfold absD setD setA
  rw [List.map_map, List.map_map]
  refine List.map_congr_left fun y _ => ?_
  show Dk.a (if y.a.key = x.a.key then x else y) = if y.a.key = x.a.key then x.a else y.a
  split <;> rfl
end Go.Proofs.YtjnbflhpboheiaaDoor
