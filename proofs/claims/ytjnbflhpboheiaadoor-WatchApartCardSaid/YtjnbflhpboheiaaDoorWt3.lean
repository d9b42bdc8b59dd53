/-
  fire.
-/
import Derived.Test.YtjnbflhpboheiaaDoorWt2
import Derived.Test.YtjnbflhpboheiaaDoorMapD
import Derived.Deep.CutBlock
namespace Go.Proofs.YtjnbflhpboheiaaDoor
open Go.RowKit Go.ChangeMaps
set_option maxRecDepth 20000
set_option linter.unusedVariables false

/-- A watch is fired. -/
def fireA (m : List UInt8 × Int) (kind : Int) (a : Da) : Da := if m ∈ a.marks then putA { a with marks := a.marks.filter fun x => decide (x ≠ m) } kind m.1 else a
def hit (m : List UInt8 × Int) (a : Da) : Nat := if m ∈ a.marks then 1 else 0
def hits (m : List UInt8 × Int) (A : List Da) : Nat := (A.map (hit m)).sum
theorem fireA_key (m : List UInt8 × Int) (kind : Int) (a : Da) : (fireA m kind a).key = a.key := by unfold fireA; split <;> rfl
theorem hits_le (m : List UInt8 × Int) : ∀ A : List Da, hits m A ≤ A.length
  | [] => Nat.le_refl _
  | a :: A => by
    have := hits_le m A
    unfold hits at *
    rw [List.map_cons, List.sum_cons, List.length_cons]
    unfold hit at *
    split <;> omega
/-- What is not seen yet, in weights. -/
def unseenW {α : Type} (f : α → Nat) (P : List (MapEntry × α)) (seen : Array Nat) : Nat := ((P.filter fun p => !seen.contains p.1.born).map fun p => f p.2).sum
theorem unseenW_push {α : Type} (f : α → Nat) : ∀ (P : List (MapEntry × α)) (seen : Array Nat) (b : Nat), b ∉ P.map (·.1.born) → unseenW f P (seen.push b) = unseenW f P seen := by
  intro P seen b h
  unfold unseenW
  have : P.filter (fun p => !(seen.push b).contains p.1.born) = P.filter (fun p => !seen.contains p.1.born) := by
    refine List.filter_congr fun p hp => ?_
    have hne : p.1.born ≠ b := fun e => h (by rw [← e]; exact List.mem_map.2 ⟨p, hp, rfl⟩)
    have ec : (seen.push b).contains p.1.born = seen.contains p.1.born := by simp [hne]
    rw [ec]
  rw [this]
theorem unseenW_step {α : Type} (f : α → Nat) : ∀ (P : List (MapEntry × α)) (seen : Array Nat) (p : MapEntry × α), (P.map (·.1.born)).Nodup → p ∈ P → seen.contains p.1.born = false → unseenW f P seen = f p.2 + unseenW f P (seen.push p.1.born)
  | [], _, _, _, h, _ => by simp at h
  | q :: P, seen, p, hn, h, hs => by
    simp only [List.map_cons, List.nodup_cons] at hn
    have e : ∀ (s : Array Nat), unseenW f (q :: P) s = (if s.contains q.1.born then 0 else f q.2) + unseenW f P s := by
      intro s
      unfold unseenW
      rw [List.filter_cons]
      cases s.contains q.1.born <;> simp
    rw [e, e]
    rcases List.mem_cons.1 h with rfl | h
    · rw [hs, unseenW_push f P seen _ hn.1]
      simp
    · have ih := unseenW_step f P seen p hn.2 h hs
      have hne : q.1.born ≠ p.1.born := fun e => hn.1 (by rw [e]; exact List.mem_map.2 ⟨p, h, rfl⟩)
      have ec : (seen.push p.1.born).contains q.1.born = seen.contains q.1.born := by simp [hne]
      rw [ec, ih]; omega
theorem seen_allW {es : Array MapEntry} {seen : Array Nat} (h : (leftOf es seen).size = 0) : ∀ e ∈ es.toList, seen.contains e.born = true := by
  intro e he
  cases hc : seen.contains e.born with
  | true => rfl
  | false =>
    have hmem : e ∈ (leftOf es seen).toList := by
      unfold leftOf
      simp only [Array.toList_filter, List.mem_filter]
      exact ⟨he, by simp only [hc]; rfl⟩
    have := List.length_pos_of_mem hmem
    simp at this; omega
theorem unseenW_none {α : Type} (f : α → Nat) {es : Array MapEntry} {P : List (MapEntry × α)} {seen : Array Nat} (h : (leftOf es seen).size = 0) (hp : ∀ p ∈ P, p.1 ∈ es.toList) : unseenW f P seen = 0 := by
  unfold unseenW
  have : P.filter (fun p => !seen.contains p.1.born) = [] := by
    rw [List.filter_eq_nil_iff]
    intro p hpm hc
    rw [seen_allW h _ (hp p hpm)] at hc
    cases hc
  rw [this]; rfl
theorem unseenW_all {α : Type} (f : α → Nat) (P : List (MapEntry × α)) : unseenW f P #[] = (P.map fun p => f p.2).sum := by
  unfold unseenW
  congr 2
  exact List.filter_eq_self.2 (fun p _ => by simp)
theorem zip_sndW {α β : Type} : ∀ (a : List α) (b : List β), a.length = b.length → (a.zip b).map Prod.snd = b
  | [], [], _ => rfl
  | x :: a, y :: b, h => by simp [zip_sndW a b (by simpa using h)]
  | [], _ :: _, h => by simp at h
  | _ :: _, [], h => by simp at h
theorem zip_fstW {α β : Type} : ∀ (a : List α) (b : List β), a.length = b.length → (a.zip b).map Prod.fst = a
  | [], [], _ => rfl
  | x :: a, y :: b, h => by simp [zip_fstW a b (by simpa using h)]
  | [], _ :: _, h => by simp at h
  | _ :: _, [], h => by simp at h
theorem zip_atW {α : Type} {f : α → Value × Value} {es : List MapEntry} {F : List α} (h : es.map (fun e => (e.key, e.val)) = F.map f) {e : MapEntry} (he : e ∈ es) : ∃ x, (e, x) ∈ es.zip F ∧ x ∈ F ∧ (e.key, e.val) = f x := by
  induction es generalizing F with
  | nil => simp at he
  | cons a es ih =>
    cases F with
    | nil => simp at h
    | cons x F =>
      simp only [List.map_cons, List.cons.injEq] at h
      rcases List.mem_cons.1 he with rfl | he
      · exact ⟨x, by simp, by simp, h.1⟩
      · obtain ⟨y, h1, h2, h3⟩ := ih h.2 he
        exact ⟨y, by simp [h1], by simp [h2], h3⟩
/-- The desks when some have been seen. -/
def curA (P : List (MapEntry × Da)) (f : Da → Da) (seen : Array Nat) : List Da := P.map fun p => if seen.contains p.1.born then f p.2 else p.2
theorem curA_step {P : List (MapEntry × Da)} {f : Da → Da} {seen : Array Nat} {e : MapEntry} {x : Da} (hb : (P.map fun p => p.1.born).Nodup) (hk : (P.map fun p => p.2.key).Nodup) (hf : ∀ a, (f a).key = a.key) (hp : (e, x) ∈ P) : setA (curA P f seen) (f x) = curA P f (seen.push e.born) := by
  unfold setA curA
  rw [List.map_map]
  refine List.map_congr_left fun p hpm => ?_
  show (if (if seen.contains p.1.born then f p.2 else p.2).key = (f x).key then f x else (if seen.contains p.1.born then f p.2 else p.2)) = _
  have ek : (if seen.contains p.1.born then f p.2 else p.2).key = p.2.key := by split <;> simp [hf]
  rw [ek, hf]
  by_cases h : p = (e, x)
  · subst h
    simp
  · have h1 : p.2.key ≠ x.key := fun q => h (inj_of_nodup hk hpm hp q)
    have h2 : p.1.born ≠ e.born := fun q => h (inj_of_nodup hb hpm hp q)
    have ec : (seen.push e.born).contains p.1.born = seen.contains p.1.born := by simp [h2]
    rw [if_neg h1, ec]
theorem curA_same {P : List (MapEntry × Da)} {f : Da → Da} {seen : Array Nat} {e : MapEntry} {x : Da} (hb : (P.map fun p => p.1.born).Nodup) (hx : f x = x) (hp : (e, x) ∈ P) : curA P f seen = curA P f (seen.push e.born) := by
  unfold curA
  refine List.map_congr_left fun p hpm => ?_
  by_cases h : p = (e, x)
  · subst h
    simp [hx]
  · have h2 : p.1.born ≠ e.born := fun q => h (inj_of_nodup hb hpm hp q)
    have ec : (seen.push e.born).contains p.1.born = seen.contains p.1.born := by simp [h2]
    rw [ec]
theorem curA_at {P : List (MapEntry × Da)} {f : Da → Da} {seen : Array Nat} {e : MapEntry} {x y : Da} (hk : (P.map fun p => p.2.key).Nodup) (hf : ∀ a, (f a).key = a.key) (hp : (e, x) ∈ P) (hs : seen.contains e.born = false) (hy : y ∈ curA P f seen) (hxy : y.key = x.key) : y = x := by
  unfold curA at hy
  obtain ⟨p, hpm, rfl⟩ := List.mem_map.1 hy
  have ek : (if seen.contains p.1.born then f p.2 else p.2).key = p.2.key := by split <;> simp [hf]
  have := inj_of_nodup hk hpm hp (ek.symm.trans hxy)
  subst this
  show (if seen.contains e.born then f x else x) = x
  rw [hs]; rfl
theorem curA_all {P : List (MapEntry × Da)} {f : Da → Da} {seen : Array Nat} (h : ∀ p ∈ P, seen.contains p.1.born = true) : curA P f seen = (P.map Prod.snd).map f := by
  unfold curA
  rw [List.map_map]
  refine List.map_congr_left fun p hp => ?_
  rw [h p hp]; rfl
theorem curA_none (P : List (MapEntry × Da)) (f : Da → Da) : curA P f #[] = P.map Prod.snd := by
  unfold curA
  refine List.map_congr_left fun p hp => ?_
  simp
/-- A block that a map is gone through with is none of a hub's. -/
theorem DkAt.not_iter {w : World} {d : Dk} (a : DkAt w d) {r : Nat} {x : Option Nat} {c1 c2 : Nat} {seen : Array Nat} (hr : w.heap[r]? = some (.mapIter x c1 seen c2)) : ¬ DkHas d r := by
  rintro (rfl | rfl | e)
  · have := a.obj; unfold ObjAt at this; rw [this] at hr; cases hr
  · obtain ⟨_, _, h, _⟩ := a.marks; rw [h] at hr; cases hr
  · obtain ⟨cur, ho⟩ := own_obj a.row e
    unfold ObjAt at ho; rw [ho] at hr; cases hr
theorem HubT.not_iter {w : World} {hb mh : Nat} {D : List Dk} (h : HubT w hb mh D) {r : Nat} {x : Option Nat} {c1 c2 : Nat} {seen : Array Nat} (hr : w.heap[r]? = some (.mapIter x c1 seen c2)) : ¬ HubHas hb mh D r := by
  rintro (rfl | rfl | ⟨d, hd, e⟩)
  · have := h.hub; unfold ObjAt at this; rw [this] at hr; cases hr
  · obtain ⟨_, _, h, _⟩ := h.map; rw [h] at hr; cases hr
  · exact (h.ds d hd).not_iter hr e
/-- A desk whose mark is gone. -/
theorem DkAt.unmark {w w' : World} {d : Dk} {m : List UInt8 × Int} (a : DkAt w d) (hm : MapAt w' d.mb skey (del (d.a.marks.map mEnt) m)) (hk : Kept w.heap.size d.mb w w') : DkAt w' { d with a := { d.a with marks := d.a.marks.filter fun x => decide (x ≠ m) } } := by
  have hnd : ((d.a.marks.map mEnt).map (·.1)).Nodup := by
    obtain ⟨_, _, _, _, _, _, hn⟩ := a.marks; exact hn
  refine ⟨a.obj.kept hk (a.obj.ne_map a.marks), ?_, own_keptS a.row (KeptS.of_kept (S := fun k => k = d.mb) hk rfl) (fun g e q => ?_)⟩
  · show MapAt w' d.mb skey ((d.a.marks.filter fun x => decide (x ≠ m)).map mEnt)
    rw [del_filter hnd, List.filter_map] at hm
    exact hm
  · obtain ⟨cur, ho⟩ := own_obj a.row e
    exact ho.ne_map a.marks q
theorem look_mark {w : World} {d : Dk} (a : DkAt w d) (m : List UInt8 × Int) : (look (d.a.marks.map mEnt) m).getD (.int .i64 0) = .int .i64 (hit m d.a) := by
  have hnd : ((d.a.marks.map mEnt).map (·.1)).Nodup := by
    obtain ⟨_, _, _, _, _, _, hn⟩ := a.marks; exact hn
  unfold hit
  by_cases h : m ∈ d.a.marks
  · rw [look_mem hnd (List.mem_map.2 ⟨m, h, rfl⟩ : (m, Value.int .i64 1) ∈ d.a.marks.map mEnt), if_pos h]; rfl
  · rw [look_not (fun q => h (by
      obtain ⟨p, hp, e⟩ := List.mem_map.1 q
      obtain ⟨x, hx, rfl⟩ := List.mem_map.1 hp
      have e' : x = m := e
      rw [← e']; exact hx)), if_neg h]; rfl

/-- A live hub, some of whose desks have been seen. -/
structure FireAt (w : World) (hb mh : Nat) (D : List Dk) (m : List UInt8 × Int) (kind : Int) (arr : Array MapEntry) (clock : Nat) (seen : Array Nat) (wr : World) (Dc : List Dk) : Prop where
  hub : HubT wr hb mh Dc
  abs : absD Dc = curA (arr.toList.zip (absD D)) (fireA m kind) seen
  ent : Dc.map dEnt = D.map dEnt
  mov : MovedH w wr hb mh D Dc
  map : wr.heap[mh]? = some (.map arr clock)
structure FireIn (w : World) (D : List Dk) (arr : Array MapEntry) (clock : Nat) : Prop where
  ent : arr.toList.map (fun e => (e.key, e.val)) = D.map fun d => (skey (dEnt d).1, (dEnt d).2)
  born : ∀ e ∈ arr.toList, e.born < clock
  nodup : (arr.toList.map (·.born)).Nodup
theorem FireIn.len {w : World} {D : List Dk} {arr : Array MapEntry} {clock : Nat} (h : FireIn w D arr clock) : arr.toList.length = (absD D).length := by
  have := congrArg List.length h.ent
  simpa [absD] using this
theorem FireIn.borns {w : World} {D : List Dk} {arr : Array MapEntry} {clock : Nat} (h : FireIn w D arr clock) : ((arr.toList.zip (absD D)).map fun p => p.1.born).Nodup := by
  have : (arr.toList.zip (absD D)).map (fun p => p.1.born) = ((arr.toList.zip (absD D)).map Prod.fst).map (·.born) := by rw [List.map_map]; rfl
  rw [this, zip_fstW _ _ h.len]; exact h.nodup
theorem FireIn.keys {w : World} {hb mh : Nat} {D : List Dk} {arr : Array MapEntry} {clock : Nat} (h : FireIn w D arr clock) (ht : HubT w hb mh D) : ((arr.toList.zip (absD D)).map fun p => p.2.key).Nodup := by
  have : (arr.toList.zip (absD D)).map (fun p => p.2.key) = ((arr.toList.zip (absD D)).map Prod.snd).map (·.key) := by rw [List.map_map]; rfl
  rw [this, zip_sndW _ _ h.len]
  have := ht.keys
  unfold absD
  rw [List.map_map]; exact this
theorem FireIn.at {w : World} {D : List Dk} {arr : Array MapEntry} {clock : Nat} (h : FireIn w D arr clock) {e : MapEntry} (he : e ∈ arr.toList) : ∃ x ∈ D, (e, x.a) ∈ arr.toList.zip (absD D) ∧ e.key = skey x.a.key ∧ e.val = .pointer (some ⟨x.db, 0, none⟩) := by
  obtain ⟨x, h1, h2, h3⟩ := zip_atW h.ent he
  refine ⟨x, h2, ?_, congrArg Prod.fst h3, congrArg Prod.snd h3⟩
  unfold absD
  rw [List.zip_map_right]
  exact List.mem_map.2 ⟨(e, x), h1, rfl⟩
theorem FireAt.at {w : World} {hb mh : Nat} {D : List Dk} {m : List UInt8 × Int} {kind : Int} {arr : Array MapEntry} {clock : Nat} {seen : Array Nat} {wr : World} {Dc : List Dk} (h : FireAt w hb mh D m kind arr clock seen wr Dc) (hi : FireIn w D arr clock) (ht : HubT w hb mh D) {e : MapEntry} {x : Dk} (hp : (e, x.a) ∈ arr.toList.zip (absD D)) (hx : x ∈ D) (hs : seen.contains e.born = false) : ∃ y ∈ Dc, y.db = x.db ∧ y.a = x.a := by
  have : dEnt x ∈ Dc.map dEnt := by rw [h.ent]; exact List.mem_map.2 ⟨x, hx, rfl⟩
  obtain ⟨y, hy, q⟩ := List.mem_map.1 this
  have q1 : y.a.key = x.a.key := congrArg Prod.fst q
  have q2 : y.db = x.db := by
    have := congrArg Prod.snd q
    unfold dEnt at this
    simpa using this
  exact ⟨y, hy, q2, curA_at (hi.keys ht) (fireA_key m kind) hp hs (by rw [← h.abs]; exact List.mem_map.2 ⟨y, hy, rfl⟩) q1⟩
/-- One desk more is seen: nothing was to be fired. -/
theorem FireAt.skip {w : World} {hb mh : Nat} {D : List Dk} {m : List UInt8 × Int} {kind : Int} {arr : Array MapEntry} {clock : Nat} {seen : Array Nat} {wr W : World} {Dc : List Dk} (h : FireAt w hb mh D m kind arr clock seen wr Dc) (hi : FireIn w D arr clock) {e : MapEntry} {x : Dk} (hp : (e, x.a) ∈ arr.toList.zip (absD D)) (hm : m ∉ x.a.marks)
    {r : Nat} {c1 c2 : Nat} {o : Option Nat} {s : Array Nat} (hr : wr.heap[r]? = some (.mapIter o c1 s c2)) (hk : KeptS (fun k => k = r) wr W) (hw : w.heap.size ≤ r) : FireAt w hb mh D m kind arr clock (seen.push e.born) W Dc := by
  have hn := h.hub.not_iter hr
  refine ⟨h.hub.keptS hk (fun k hk e => hn (e ▸ hk)), ?_, h.ent, ⟨h.mov.1, h.mov.2.trans hk (fun i hi e => by omega)⟩, ?_⟩
  · rw [h.abs, curA_same hi.borns (by unfold fireA; rw [if_neg hm]) hp]
  · rw [hk.block mh h.hub.map.lt (fun e => hn (.inr (.inl e.symm)))]; exact h.map
/-- One desk more is seen: it was fired. -/
theorem FireAt.fire {w : World} {hb mh : Nat} {D : List Dk} {m : List UInt8 × Int} {kind : Int} {arr : Array MapEntry} {clock : Nat} {seen : Array Nat} {wr W W' : World} {Dc : List Dk} (h : FireAt w hb mh D m kind arr clock seen wr Dc) (hi : FireIn w D arr clock) (ht : HubT w hb mh D) {e : MapEntry} {x y y' : Dk} (hp : (e, x.a) ∈ arr.toList.zip (absD D)) (hy : y ∈ Dc) (hya : y.a = x.a)
    {r : Nat} {c1 c2 : Nat} {o : Option Nat} {s : Array Nat} (hr : wr.heap[r]? = some (.mapIter o c1 s c2)) (hk : KeptS (fun k => k = r) wr W) (hw : w.heap.size ≤ r) (hdy : DkAt W' y') (ey : y'.a = fireA m kind x.a) (eb : y'.db = y.db) (em : y'.mb = y.mb) (hk' : KeptS (DkHas y) W W') (hg : ∀ k, y'.v.ownBlock = some k → y.v.ownBlock = some k ∨ W.heap.size ≤ k) :
    FireAt w hb mh D m kind arr clock (seen.push e.born) W' (setD Dc y') := by
  have hn := h.hub.not_iter hr
  have hW : HubT W hb mh Dc := h.hub.keptS hk (fun k hk e => hn (e ▸ hk))
  have hmW : MovedH w W hb mh D Dc := ⟨h.mov.1, h.mov.2.trans hk (fun i hi e => by omega)⟩
  have en : y'.a.key = y.a.key := by rw [ey, hya, fireA_key]
  refine ⟨hW.putD hy en eb em hdy hk' hg, ?_, ?_, hmW.trans (MovedH.putD hy eb em hk' hg), ?_⟩
  · rw [abs_setD, h.abs, ey, curA_step hi.borns (hi.keys ht) (fireA_key m kind) hp]
  · rw [setD_map dEnt hW.keys hy en (by unfold dEnt; rw [en, eb])]; exact h.ent
  · rw [hk'.block mh hW.map.lt ?_, hk.block mh h.hub.map.lt (fun e => hn (.inr (.inl e.symm)))]
    · exact h.map
    · have ay := hW.ds y hy
      rintro (e | e | e)
      · exact ay.obj.ne_map hW.map e.symm
      · exact hW.ne y hy e.symm
      · obtain ⟨cur, ho⟩ := own_obj ay.row e
        exact ho.ne_map hW.map rfl
end Go.Proofs.YtjnbflhpboheiaaDoor
