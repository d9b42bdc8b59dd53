/-
  The table of a disk; Used.
-/
import Derived.Test.YtibhkkfbhbnmeaaDsk2
import Derived.Maps.Own
import Derived.Maps.Range
import Derived.Maps.RangeRun
namespace Go.Proofs.Ytibhkkfbhbnmeaa
open Go.RowKit Go.ChangeMaps
set_option maxRecDepth 20000
set_option linter.unusedVariables false

/-- A file: its name, its block, its bytes (the slice, the bytes, their block), how many are safe. -/
structure Fl where
  nm : List UInt8
  f : Nat
  v : Value
  b : List UInt8
  g : Option Nat
  safe : Nat
def flEnt (x : Fl) : List UInt8 × Value := (x.nm, .pointer (some ⟨x.f, 0, none⟩))
/-- The table at m holds the files F. -/
structure TabAt (w : World) (m : Nat) (F : List Fl) : Prop where
  map : MapAt w m tkey (F.map flEnt)
  obj : ∀ x ∈ F, ObjAt w x.f 69 #[x.v, .int .i64 (x.safe : Nat)]
  row : ∀ x ∈ F, RowOf w x.v x.b x.g
  fd : (F.map Fl.f).Nodup
  gd : F.Pairwise fun x y => x.g = none ∨ x.g ≠ y.g
/-- Which blocks a table has. -/
def TabHas (m : Nat) (F : List Fl) (k : Nat) : Prop := k = m ∨ ∃ x ∈ F, x.f = k ∨ x.g = some k
theorem TabAt.keptS {S : Nat → Prop} {w w' : World} {m : Nat} {F : List Fl} (h : TabAt w m F) (hk : KeptS S w w') (hn : ∀ k, TabHas m F k → ¬ S k) : TabAt w' m F :=
  ⟨h.map.keptS hk (hn _ (.inl rfl)), fun x hx => (h.obj x hx).keptS hk (hn _ (.inr ⟨x, hx, .inl rfl⟩)), fun x hx => (h.row x hx).keptS hk (fun k e => hn k (.inr ⟨x, hx, .inr e⟩)), h.fd, h.gd⟩
theorem TabAt.below {w w' : World} {m : Nat} {F : List Fl} (h : TabAt w m F) (hb : Below w.heap.size w w') : TabAt w' m F :=
  h.keptS (S := fun _ => False) (KeptS.of_below hb) (fun _ _ h => h)
theorem TabAt.lt {w : World} {m : Nat} {F : List Fl} (h : TabAt w m F) : ∀ k, TabHas m F k → k < w.heap.size := by
  rintro k (rfl | ⟨x, hx, rfl | hg⟩)
  · exact h.map.lt
  · exact (h.obj x hx).lt
  · exact (h.row x hx).lt k hg
theorem TabAt.names {w : World} {m : Nat} {F : List Fl} (h : TabAt w m F) : (F.map Fl.nm).Nodup := by
  obtain ⟨_, _, _, _, _, _, hn⟩ := h.map
  rw [List.map_map] at hn; exact hn
/-- How many bytes there are. -/
def total (F : List Fl) : Nat := (F.map fun x => x.b.length).sum

/-- How many bytes the files have that were not seen yet. -/
def unseen (P : List (MapEntry × Fl)) (seen : Array Nat) : Nat := ((P.filter fun p => !seen.contains p.1.born).map fun p => p.2.b.length).sum
theorem unseen_push (P : List (MapEntry × Fl)) (seen : Array Nat) (b : Nat) (h : b ∉ P.map (·.1.born)) : unseen P (seen.push b) = unseen P seen := by
  unfold unseen
  congr 2
  refine List.filter_congr fun p hp => ?_
  have : p.1.born ≠ b := fun e => h (List.mem_map.2 ⟨p, hp, e⟩)
  simp [this]
theorem unseen_step : ∀ (P : List (MapEntry × Fl)) (seen : Array Nat) (p : MapEntry × Fl), (P.map (·.1.born)).Nodup → p ∈ P → seen.contains p.1.born = false → unseen P seen = p.2.b.length + unseen P (seen.push p.1.born)
  | [], _, _, _, h, _ => by simp at h
  | q :: P, seen, p, hn, h, hs => by
    simp only [List.map_cons, List.nodup_cons] at hn
    have e : ∀ (s : Array Nat), unseen (q :: P) s = (if s.contains q.1.born then 0 else q.2.b.length) + unseen P s := by
      intro s
      unfold unseen
      rw [List.filter_cons]
      cases s.contains q.1.born <;> simp
    rw [e, e]
    rcases List.mem_cons.1 h with rfl | h
    · rw [hs, unseen_push P seen _ hn.1]
      simp
    · have ih := unseen_step P seen p hn.2 h hs
      have hne : q.1.born ≠ p.1.born := fun e => hn.1 (by rw [e]; exact List.mem_map.2 ⟨p, h, rfl⟩)
      have ec : (seen.push p.1.born).contains q.1.born = seen.contains q.1.born := by simp [hne]
      rw [ec, ih]; omega
theorem unseen_none {es : Array MapEntry} {P : List (MapEntry × Fl)} {seen : Array Nat} (h : (leftOf es seen).size = 0) (hp : ∀ p ∈ P, p.1 ∈ es.toList) : unseen P seen = 0 := by
  unfold unseen
  have : P.filter (fun p => !seen.contains p.1.born) = [] := by
    rw [List.filter_eq_nil_iff]
    intro p hpm hc
    have hmem : p.1 ∈ (leftOf es seen).toList := by
      unfold leftOf
      simp only [Array.toList_filter, List.mem_filter]
      exact ⟨hp p hpm, hc⟩
    have := List.length_pos_of_mem hmem
    simp at this; omega
  rw [this]; rfl
theorem unseen_all (P : List (MapEntry × Fl)) : unseen P #[] = (P.map fun p => p.2.b.length).sum := by
  unfold unseen
  congr 2
  exact List.filter_eq_self.2 (fun p _ => by simp)
theorem zip_snd {α β : Type} : ∀ (a : List α) (b : List β), a.length = b.length → (a.zip b).map Prod.snd = b
  | [], [], _ => rfl
  | x :: a, y :: b, h => by simp [zip_snd a b (by simpa using h)]
  | [], _ :: _, h => by simp at h
  | _ :: _, [], h => by simp at h
theorem zip_fst {α β : Type} : ∀ (a : List α) (b : List β), a.length = b.length → (a.zip b).map Prod.fst = a
  | [], [], _ => rfl
  | x :: a, y :: b, h => by simp [zip_fst a b (by simpa using h)]
  | [], _ :: _, h => by simp at h
  | _ :: _, [], h => by simp at h
theorem zip_at {es : List MapEntry} {F : List Fl} (h : es.map (fun e => (e.key, e.val)) = F.map fun x => (tkey (flEnt x).1, (flEnt x).2)) {e : MapEntry} (he : e ∈ es) : ∃ x, (e, x) ∈ es.zip F ∧ x ∈ F ∧ e.key = tkey x.nm ∧ e.val = .pointer (some ⟨x.f, 0, none⟩) := by
  induction es generalizing F with
  | nil => simp at he
  | cons a es ih =>
    cases F with
    | nil => simp at h
    | cons x F =>
      simp only [List.map_cons, List.cons.injEq, Prod.mk.injEq] at h
      rcases List.mem_cons.1 he with rfl | he
      · exact ⟨x, by simp, by simp, h.1.1, h.1.2⟩
      · obtain ⟨y, h1, h2, h3⟩ := ih h.2 he
        exact ⟨y, by simp [h1], by simp [h2], h3⟩

set_option maxHeartbeats 2000000 in
theorem tab_used (m : Nat) (F : List Fl) (w : World) (h : TabAt w m F) (hm : total F ≤ 4611686018427387904) :
    Calls Try.prog 20 #[.map (some m)] w fun e w' => e = .returned (.int .i64 (total F)) ∧ Below w.heap.size w w' := by
  have HT := hid h
  obtain ⟨arr, clock, hbm, hent, hbo, hnd, hks⟩ := h.map
  have hrg := _root_.Go.run_range_map (P := Try.prog) w _ _ _ m arr clock Try.underlying55 hbm
  have hlen : arr.toList.length = F.length := by
    have := congrArg List.length hent
    simpa using this
  have hent' : arr.toList.map (fun e => (e.key, e.val)) = F.map fun x => (tkey (flEnt x).1, (flEnt x).2) := by rw [hent, List.map_map]; rfl
  have HE := hid hent'
  have HBO := hid hbo
  have HND := hid hnd
  have HBM := hid hbm
  have HZF := hid (zip_fst arr.toList F hlen)
  have HTOT : Hid (unseen (arr.toList.zip F) #[] = total F) := by
    show _ = _
    rw [unseen_all]
    unfold total
    have e := zip_snd arr.toList F hlen
    conv => rhs; rw [← e]
    rw [List.map_map]; rfl
  clear hent hent' hbo hnd hks hbm hlen h
  go_enter Try.func20, Try.ntmps20
  go_wp2_with fail
  clear hrg
  go_loopw [3, 8, 9] (fun n _ _ wr => ∃ (seen : Array Nat) (z : Nat), n = .int .i64 z ∧ Hid (z + unseen (arr.toList.zip F) seen = total F) ∧ Hid (Below w.heap.size w wr) ∧ Hid (wr.heap[w.heap.size]? = some (.mapIter (some m) clock seen clock)) ∧ Hid (wr.heap.size = w.heap.size + 1)) (fun _ _ _ wr => (leftOf arr (wr.iterSeen w.heap.size)).size)
  case atStart => exact ⟨#[], 0, rfl, by show _ = _; rw [HTOT.out, Nat.zero_add], below_new _, heap_alloc_new _ _, by show (w.alloc _).heap.size = _; simp⟩
  case round =>
    obtain ⟨seen, z, rfl, HS, HW, HR, HZ⟩ := hrel
    have hml := HT.out.map.lt
    have hbw : wr.heap[m]? = some (.map arr clock) := (HW.out.block _ hml).trans HBM.out
    rcases run_next_at (P := Try.prog) wr 0 w.heap.size m clock clock seen arr clock HR.out hbw HBO.out (Nat.le_refl _) with ⟨h0, hrun⟩ | ⟨e, he, w2, hw2, hrun⟩
    · have hrun' : ∀ ty, (Instr.next (.pointer (some ⟨w.heap.size, 0, none⟩)) false ty).run Try.prog wr = _ := fun _ => hrun
      have HQ : Hid (z = total F) := by
        show _ = _
        have h1 := HS.out
        rw [unseen_none h0 (fun p hp => (List.of_mem_zip hp).1), Nat.add_zero] at h1
        exact h1
      clear hrun h0 hbw HR HZ HS HE HBO HND HBM HTOT HZF
      go_wp2_with fail
      go_ret
      exact ⟨by rw [← HQ.out]; rfl, HW.out⟩
    · obtain ⟨hmem, hns⟩ := mem_left he
      obtain ⟨x, hzip, hx, q1, q2⟩ := zip_at HE.out hmem
      have HU : Hid (z + x.b.length + unseen (arr.toList.zip F) (seen.push e.born) = total F) := by
        show _ = _
        have h1 := HS.out
        have h2 := unseen_step (arr.toList.zip F) seen (e, x) (by
          have : (arr.toList.zip F).map (fun p => p.1.born) = ((arr.toList.zip F).map Prod.fst).map (·.born) := by rw [List.map_map]; rfl
          rw [this, HZF.out]; exact HND.out) hzip (by simpa using hns)
        dsimp only at h2
        omega
      rw [q1, q2] at hrun
      have hz2 : w2.heap = wr.heap := by rcases hw2 with rfl | rfl <;> rfl
      have hbl2 : Below w.heap.size w w2 := by
        rcases hw2 with rfl | rfl
        · exact HW.out
        · exact HW.out.drew
      have HR2 : Hid ((setBlock w2 w.heap.size (.mapIter (some m) clock (seen.push e.born) clock)).heap[w.heap.size]? = some (.mapIter (some m) clock (seen.push e.born) clock)) := by
        show (w2.heap.setIfInBounds _ _)[_]? = _
        rw [hz2]; simp [HZ.out]
      have HW2 := hid (below_kept hbl2 (kept_setMap (w := w2) (m := w.heap.size) (o := .mapIter (some m) clock (seen.push e.born) clock)) (Nat.le_refl _) hbl2.size)
      have HZ2 : Hid ((setBlock w2 w.heap.size (.mapIter (some m) clock (seen.push e.born) clock)).heap.size = w.heap.size + 1) := by
        show (w2.heap.setIfInBounds _ _).size = _
        rw [hz2]; simp [HZ.out]
      have hrun' : ∀ ty, (Instr.next (.pointer (some ⟨w.heap.size, 0, none⟩)) false ty).run Try.prog wr = _ := fun _ => hrun
      have HI : Hid (wr.iterSeen w.heap.size = seen) := by show _ = _; unfold World.iterSeen; rw [HR.out]
      have HSH := hid (left_shrinks arr seen e he)
      have hbw2 : (setBlock w2 w.heap.size (.mapIter (some m) clock (seen.push e.born) clock)).heap[m]? = some (.map arr clock) := (HW2.out.block _ hml).trans HBM.out
      have hen := run_entry_at (P := Try.prog) _ w.heap.size m clock seen arr clock e HR2.out hbw2 hmem HND.out
      rw [q1, q2] at hen
      clear hbw hz2 hbl2 hbw2 hw2 HR HW HZ hrun he HS
      change Hid (Below w.heap.size w (setBlock w2 w.heap.size (.mapIter (some m) clock (seen.push e.born) clock))) at HW2
      generalize setBlock w2 w.heap.size (.mapIter (some m) clock (seen.push e.born) clock) = W at *
      have hro := HT.out.row x hx
      obtain ⟨va, vc, hve, -, -, hv1, hv2⟩ := hro.bytes
      have s0 := ((HT.out.obj x hx).below HW2.out).cell 0 x.v rfl
      rw [hve] at s0
      have hzb : z + x.b.length ≤ 4611686018427387904 := by have := HU.out; omega
      unfold maxLen at hv2
      clear hve hro hzip q1 q2
      go_wp2_with fail
      go_roundw
      case rel => exact ⟨_, z + x.b.length, by go_num, HU, HW2, HR2, HZ2⟩
      case measure =>
        rw [HI.out]
        have : W.iterSeen w.heap.size = seen.push e.born := by unfold World.iterSeen; rw [HR2.out]
        rw [this]
        exact HSH.out
end Go.Proofs.Ytibhkkfbhbnmeaa
