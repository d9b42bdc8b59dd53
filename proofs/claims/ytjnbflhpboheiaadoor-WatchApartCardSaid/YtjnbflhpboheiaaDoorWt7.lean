/-
  Add.
-/
import Derived.Test.YtjnbflhpboheiaaDoorWt6
import Derived.Deep.CutBlock
import Derived.BigQuiet
namespace Go.Proofs.YtjnbflhpboheiaaDoor
open Go.RowKit Go.ChangeMaps
set_option maxRecDepth 20000
set_option linter.unusedVariables false

def newDa (k : List UInt8 × Int) : Da := ⟨k, [], 0, 0, []⟩
def withM (a : Da) (m : List UInt8 × Int) : Da := { a with marks := if m ∈ a.marks then a.marks else a.marks ++ [m] }
/-- What Add tells. -/
def addE (A : List Da) (k m : List UInt8 × Int) : Int :=
  if checkP k m = 0 then (match seekA A k with | none => 0 | some a => if m ∉ a.marks ∧ 32 ≤ a.marks.length + a.ev.length then 61 else 0) else checkP k m
/-- What Add leaves. -/
def addA (A : List Da) (k m : List UInt8 × Int) : List Da :=
  if addE A k m = 0 then (match seekA A k with | none => A ++ [withM (newDa k) m] | some a => setA A (withM a m)) else A
def AddP (w : World) (hb mh : Nat) (D : List Dk) (k m : List UInt8 × Int) (e : Ending) (w' : World) : Prop :=
  e = .returned (.int .i64 (addE (absD D) k m)) ∧ ∃ D', HubT w' hb mh D' ∧ MovedH w w' hb mh D D' ∧ absD D' = addA (absD D) k m
theorem AddP.no {w w' : World} {hb mh : Nat} {D : List Dk} {k m : List UInt8 × Int} {er : Int} (h : HubT w hb mh D) (hb' : Below w.heap.size w w') (he : addE (absD D) k m = er) (hn : er ≠ 0) : AddP w hb mh D k m (.returned (.int .i64 er)) w' :=
  ⟨by rw [he], D, h.below hb', MovedH.below hb', by unfold addA; rw [if_neg (by rw [he]; exact hn)]⟩

/-- What lies where Add has its desk. -/
structure AddAt (w : World) (B : Nat) (D : List Dk) (k : List UInt8 × Int) (x : Dk) : Prop where
  dk : DkAt w x
  key : x.a.key = k
  is : x ∈ D ∧ seekD D k = some x ∨ seekD D k = none ∧ x.a = newDa k ∧ B ≤ x.db ∧ B ≤ x.mb ∧ x.v.ownBlock = none
theorem DkAt.below {w w' : World} {d : Dk} (a : DkAt w d) (hb : Below w.heap.size w w') : DkAt w' d := a.keptS (S := fun _ => False) (KeptS.of_below hb) (fun _ _ h => h)
theorem AddAt.below {w w' : World} {B : Nat} {D : List Dk} {k : List UInt8 × Int} {x : Dk} (h : AddAt w B D k x) (hb : Below w.heap.size w w') : AddAt w' B D k x :=
  ⟨h.dk.below hb, h.key, h.is⟩
theorem AddAt.seek {w : World} {B : Nat} {D : List Dk} {k : List UInt8 × Int} {x : Dk} (h : AddAt w B D k x) (m : List UInt8 × Int) (hc : checkP k m = 0) : addE (absD D) k m = if m ∉ x.a.marks ∧ 32 ≤ x.a.marks.length + x.a.ev.length then 61 else 0 := by
  unfold addE
  rw [if_pos hc, seekD_abs]
  rcases h.is with ⟨-, h1⟩ | ⟨h1, h2, -⟩
  · rw [h1]; rfl
  · rw [h1, h2]
    show (0 : Int) = _
    rw [if_neg]
    rintro ⟨-, q⟩
    simp [newDa] at q
/-- A desk with a mark more. -/
theorem DkAt.mark {w w' : World} {d : Dk} {m : List UInt8 × Int} (a : DkAt w d) (hm : MapAt w' d.mb skey (upd (d.a.marks.map mEnt) m (.int .i64 1))) (hk : Kept w.heap.size d.mb w w') : DkAt w' { d with a := withM d.a m } := by
  have hnd : ((d.a.marks.map mEnt).map (·.1)).Nodup := by
    obtain ⟨_, _, _, _, _, _, hn⟩ := a.marks; exact hn
  refine ⟨a.obj.kept hk (a.obj.ne_map a.marks), ?_, own_keptS a.row (KeptS.of_kept (S := fun k => k = d.mb) hk rfl) (fun g e q => ?_)⟩
  · show MapAt w' d.mb skey ((if m ∈ d.a.marks then d.a.marks else d.a.marks ++ [m]).map mEnt)
    by_cases h : m ∈ d.a.marks
    · rw [if_pos h]
      rw [upd_is (look_mem hnd (List.mem_map.2 ⟨m, h, rfl⟩ : (m, Value.int .i64 1) ∈ d.a.marks.map mEnt))] at hm
      exact hm
    · rw [if_neg h, List.map_append]
      rw [upd_add (fun q => h (by
        obtain ⟨p, hp, e⟩ := List.mem_map.1 q
        obtain ⟨x, hx, rfl⟩ := List.mem_map.1 hp
        have e' : x = m := e
        rw [← e']; exact hx))] at hm
      exact hm
  · obtain ⟨cur, ho⟩ := own_obj a.row e
    exact ho.ne_map a.marks q
theorem HubT.same {w w' : World} {hb mh : Nat} {D : List Dk} (h : HubT w hb mh D) (hk : Kept w.heap.size mh w w') (hm : MapAt w' mh skey (D.map dEnt)) : HubT w' hb mh D :=
  ⟨h.hub.kept hk (h.hub.ne_map h.map), hm, fun x hx => (h.ds x hx).keptS (KeptS.of_kept (S := fun k => k = mh) hk rfl) (by
    rintro k (rfl | rfl | e1) e
    · exact (h.ds x hx).obj.ne_map h.map e
    · exact h.ne x hx e
    · obtain ⟨cur, ho⟩ := own_obj (h.ds x hx).row e1
      exact ho.ne_map h.map e), h.nb, h.nm, h.ne, h.rows⟩
theorem AddAt.off {w wr : World} {hb mh : Nat} {D : List Dk} {k : List UInt8 × Int} {x : Dk} (h : AddAt wr w.heap.size D k x) (hw : HubT w hb mh D) (hb' : Below w.heap.size w wr) : ¬ DkHas x hb ∧ ¬ DkHas x mh := by
  have ht := hw.below hb'
  rcases h.is with ⟨hx, -⟩ | ⟨h1, h2, h4, h5, h6⟩
  · constructor
    · rintro (e | e | e)
      · exact ht.hub.ne_obj h.dk.obj hub_ne e
      · exact ht.hub.ne_map h.dk.marks e
      · obtain ⟨cur, ho⟩ := own_obj h.dk.row e
        exact ht.hub.ne_obj ho hub_ev rfl
    · rintro (e | e | e)
      · exact h.dk.obj.ne_map ht.map e.symm
      · exact ht.ne x hx e.symm
      · obtain ⟨cur, ho⟩ := own_obj h.dk.row e
        exact ho.ne_map ht.map rfl
  · have l1 := hw.hub.lt
    have l2 := hw.map.lt
    constructor
    · rintro (e | e | e)
      · omega
      · omega
      · rw [h6] at e; cases e
    · rintro (e | e | e)
      · omega
      · omega
      · rw [h6] at e; cases e
/-- The end of an Add. -/
theorem add_end {w w3 W5 W6 : World} {hb mh : Nat} {D : List Dk} {k m : List UInt8 × Int} {x : Dk} (hw : HubT w hb mh D) (hb' : Below w.heap.size w w3) (ha : AddAt w3 w.heap.size D k x) (hm5 : MapAt W5 x.mb skey (upd (x.a.marks.map mEnt) m (.int .i64 1))) (hk5 : Kept w3.heap.size x.mb w3 W5)
    (hk6 : Kept W5.heap.size mh W5 W6) (hm6 : MapAt W6 mh skey (upd (D.map dEnt) k (.pointer (some ⟨x.db, 0, none⟩)))) (he : addE (absD D) k m = 0) : AddP w hb mh D k m (.returned (.int .i64 0)) W6 := by
  refine ⟨by rw [he], ?_⟩
  have h3 : HubT w3 hb mh D := hw.below hb'
  have a5 := ha.dk.mark hm5 hk5
  have k5 : KeptS (DkHas x) w3 W5 := KeptS.of_kept hk5 (.inr (.inl rfl))
  unfold addA
  rw [if_pos he, seekD_abs]
  rcases ha.is with ⟨hx, hs⟩ | ⟨hs, h2, hb1, hb2, hb3⟩
  · rw [hs]
    have h5 : HubT W5 hb mh (setD D { x with a := withM x.a m }) := h3.putD hx rfl rfl rfl a5 k5 (fun _ h => .inl h)
    have e1 : (setD D { x with a := withM x.a m }).map dEnt = D.map dEnt := setD_map dEnt hw.keys hx rfl rfl
    have e2 : look (D.map dEnt) k = some (.pointer (some ⟨x.db, 0, none⟩)) := by
      rw [look_seekD, hs]; rfl
    rw [upd_is e2, ← e1] at hm6
    refine ⟨_, h5.same hk6 hm6, ?_, abs_setD D _⟩
    have q1 := MovedH.putD (w := w3) (w' := W5) (hb := hb) (mh := mh) (x' := { x with a := withM x.a m }) hx rfl rfl k5 (fun _ h => .inl h)
    have q2 : MovedH W5 W6 hb mh (setD D { x with a := withM x.a m }) (setD D { x with a := withM x.a m }) := ⟨fun k h => .inl h, KeptS.of_kept hk6 (.inr (.inl rfl))⟩
    exact ((MovedH.below hb').trans q1).trans q2
  · rw [hs]
    have nh : ∀ i, DkHas x i → w.heap.size ≤ i := by
      rintro i (rfl | rfl | e)
      · exact hb1
      · exact hb2
      · rw [hb3] at e; cases e
    have h5 : HubT W5 hb mh D := h3.keptS k5 fun i hi e => by have := hw.lt i hi; have := nh i e; omega
    rw [upd_add (by
      intro h
      rw [List.map_map] at h
      obtain ⟨y, hy, e⟩ := List.mem_map.1 h
      exact seekD_none hs y hy e)] at hm6
    refine ⟨D ++ [{ x with a := withM x.a m }], h5.push a5 hk6 ?_ (fun e => by have := hw.lt _ e; have h : w.heap.size ≤ x.db := hb1; simp only at *; omega) (fun e => by have := hw.lt _ e; have h : w.heap.size ≤ x.mb := hb2; simp only at *; omega) hb3, ⟨?_, ?_⟩, ?_⟩
    · have e : dEnt { x with a := withM x.a m } = (k, .pointer (some ⟨x.db, 0, none⟩)) := by
        unfold dEnt withM
        rw [← ha.key]
      rw [e]; exact hm6
    · rintro i (e | e | ⟨y, hy, e⟩)
      · exact .inl (.inl e)
      · exact .inl (.inr (.inl e))
      · rcases List.mem_append.1 hy with hy | hy
        · exact .inl (.inr (.inr ⟨y, hy, e⟩))
        · rw [List.mem_singleton.1 hy] at e
          exact .inr (nh i e)
    · have hbw5 : Below w.heap.size w W5 := hb'.trans (KeptS.below (B := w.heap.size) k5 nh hb'.size)
      exact (KeptS.of_below hbw5).next (KeptS.of_kept hk6 (.inr (.inl rfl)))
    · show absD (D ++ [_]) = absD D ++ [_]
      unfold absD
      rw [List.map_append, ← h2]; rfl
end Go.Proofs.YtjnbflhpboheiaaDoor
