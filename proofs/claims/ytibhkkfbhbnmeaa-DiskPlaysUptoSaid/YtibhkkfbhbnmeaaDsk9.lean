/-
  Rename, Remove.
-/
import Derived.Test.YtibhkkfbhbnmeaaDsk8
import Derived.Test.YtibhkkfbhbnmeaaMapD
import Derived.Test.YtibhkkfbhbnmeaaDsk1
namespace Go.Proofs.Ytibhkkfbhbnmeaa
open Go.RowKit Go.ChangeMaps
set_option maxRecDepth 20000
set_option linter.unusedVariables false

theorem idx_of {κ : Type} [DecidableEq κ] (l : List (κ × Value)) (k : κ) (hn : (l.map (·.1)).Nodup) : del l k = l.filter (fun p => decide (p.1 ≠ k)) := by
  unfold del
  induction l with
  | nil => rfl
  | cons p l ih =>
    simp only [List.map_cons, List.nodup_cons] at hn
    rw [List.findIdx?_cons, List.filter_cons]
    by_cases h : p.1 = k
    · subst h
      have e : l.filter (fun q => decide (q.1 ≠ p.1)) = l := by
        rw [List.filter_eq_self]
        intro q hq
        exact decide_eq_true (fun e => hn.1 (List.mem_map.2 ⟨q, hq, e⟩))
      simpa using e.symm
    · have hf : (p.1 == k) = false := by simpa using h
      rw [hf]
      simp only [Bool.false_eq_true, if_false]
      have ih' := ih hn.2
      cases hx : l.findIdx? (fun p => p.1 == k) with
      | none => rw [hx] at ih'; simp only [Option.map_none] ; simp [h]; simpa using ih'
      | some j => rw [hx] at ih'; simp only [Option.map_some]; simp [h]; simpa using ih'
def delF (F : List Fl) (nm : List UInt8) : List Fl := F.filter fun y => decide (y.nm ≠ nm)
theorem delF_ent (F : List Fl) (nm : List UInt8) (hn : (F.map Fl.nm).Nodup) : del (F.map flEnt) nm = (delF F nm).map flEnt := by
  rw [idx_of _ _ (by rw [List.map_map]; exact hn)]
  unfold delF
  rw [List.filter_map]; rfl
theorem delF_mem {F : List Fl} {nm : List UInt8} {y : Fl} (h : y ∈ delF F nm) : y ∈ F ∧ y.nm ≠ nm := by
  unfold delF at h
  rw [List.mem_filter] at h
  exact ⟨h.1, by simpa using h.2⟩
theorem TabAt.off {w : World} {m : Nat} {F : List Fl} (h : TabAt w m F) : ∀ x ∈ F, x.f ≠ m ∧ x.g ≠ some m := fun x hx =>
  ⟨(h.obj x hx).ne_map h.map, fun e => by
    have := h.row x hx
    rw [e] at this
    exact this.ne_map h.map rfl⟩
theorem TabAt.del {w w' : World} {m : Nat} {F : List Fl} {nm : List UInt8} (h : TabAt w m F) (hm : MapAt w' m tkey (del (F.map flEnt) nm)) (hk : Kept w.heap.size m w w') : TabAt w' m (delF F nm) := by
  have hks : KeptS (fun k => k = m) w w' := KeptS.of_kept hk rfl
  refine ⟨by rw [← delF_ent F nm h.names]; exact hm, fun y hy => ?_, fun y hy => ?_, ?_, ?_⟩
  · have hy := (delF_mem hy).1
    exact (h.obj y hy).keptS hks (fun e => (h.off y hy).1 e)
  · have hy := (delF_mem hy).1
    exact (h.row y hy).keptS hks (fun k e q => (h.off y hy).2 (by rw [e, q]))
  · exact h.fd.sublist ((List.filter_sublist).map _)
  · exact h.gd.sublist List.filter_sublist
theorem delF_has {m : Nat} {F : List Fl} {nm : List UInt8} {k : Nat} (h : TabHas m (delF F nm) k) : TabHas m F k := by
  rcases h with h | ⟨y, hy, h⟩
  · exact .inl h
  · exact .inr ⟨y, (delF_mem hy).1, h⟩
def delA (A : List Ab) (nm : List UInt8) : List Ab := A.filter fun a => decide (a.1 ≠ nm)
theorem abs_delF (F : List Fl) (nm : List UInt8) : abs (delF F nm) = delA (abs F) nm := by
  unfold abs delF delA
  rw [List.filter_map]; rfl

/-- A file put under its name. -/
def putF (F : List Fl) (x : Fl) : List Fl := if F.any (fun y => decide (y.nm = x.nm)) then F.map (fun y => if y.nm = x.nm then x else y) else F ++ [x]
def putA (A : List Ab) (a : Ab) : List Ab := if A.any (fun y => decide (y.1 = a.1)) then A.map (fun y => if y.1 = a.1 then a else y) else A ++ [a]
theorem abs_putF (F : List Fl) (x : Fl) : abs (putF F x) = putA (abs F) (x.nm, x.b, x.safe) := by
  unfold putF putA
  have e : (abs F).any (fun y => decide (y.1 = x.nm)) = F.any (fun y => decide (y.nm = x.nm)) := by
    unfold abs; rw [List.any_map]; rfl
  dsimp only
  rw [e]
  split
  · unfold abs
    rw [List.map_map, List.map_map]
    refine List.map_congr_left fun y _ => ?_
    show (fun x : Fl => (x.nm, x.b, x.safe)) (if y.nm = x.nm then x else y) = if y.nm = x.nm then _ else _
    split <;> rfl
  · unfold abs; rw [List.map_append]; rfl
theorem upd_nodup {κ : Type} [DecidableEq κ] (l : List (κ × Value)) (k : κ) (v : Value) (hn : (l.map (·.1)).Nodup) : upd l k v = if k ∈ l.map (·.1) then l.map (fun p => if p.1 = k then (k, v) else p) else l ++ [(k, v)] := by
  unfold upd
  cases h : l.findIdx? (fun p => p.1 == k) with
  | none => rw [if_neg (find_none h)]
  | some j =>
    obtain ⟨hj, e⟩ := find_key h
    rw [if_pos (List.mem_map.2 ⟨l[j], List.getElem_mem hj, e⟩)]
    refine List.ext_getElem (by simp) fun i h1 h2 => ?_
    simp only [List.length_set] at h1
    rw [List.getElem_map, List.getElem_set]
    by_cases hij : j = i
    · subst hij
      rw [if_pos rfl, if_pos e]
    · rw [if_neg hij, if_neg]
      intro e2
      have hm : (l.map (·.1))[j]'(by simpa using hj) = (l.map (·.1))[i]'(by simpa using h1) := by simp [e, e2]
      unfold List.Nodup at hn
      have hp := List.pairwise_iff_getElem.1 hn
      rcases Nat.lt_or_gt_of_ne hij with q | q
      · exact hp j i _ _ q hm
      · exact hp i j _ _ q hm.symm
theorem putF_ent (F : List Fl) (x : Fl) (hn : (F.map Fl.nm).Nodup) : upd (F.map flEnt) x.nm (fptr x) = (putF F x).map flEnt := by
  rw [upd_nodup _ _ _ (by rw [List.map_map]; exact hn)]
  unfold putF
  have e : x.nm ∈ (F.map flEnt).map (·.1) ↔ F.any (fun y => decide (y.nm = x.nm)) = true := by
    rw [List.map_map, List.any_eq_true, List.mem_map]
    constructor
    · rintro ⟨y, hy, e⟩; exact ⟨y, hy, decide_eq_true e⟩
    · rintro ⟨y, hy, e⟩; exact ⟨y, hy, of_decide_eq_true e⟩
  by_cases h : F.any (fun y => decide (y.nm = x.nm)) = true
  · rw [if_pos h, if_pos (e.2 h), List.map_map, List.map_map]
    refine List.map_congr_left fun y _ => ?_
    show (if y.nm = x.nm then (x.nm, fptr x) else flEnt y) = flEnt (if y.nm = x.nm then x else y)
    split <;> rfl
  · rw [if_neg h, if_neg (fun q => h (e.1 q)), List.map_append]; rfl
theorem putF_mem {F : List Fl} {x y : Fl} (h : y ∈ putF F x) : y = x ∨ y ∈ F := by
  unfold putF at h
  split at h
  · obtain ⟨z, hz, rfl⟩ := List.mem_map.1 h
    split
    · exact .inl rfl
    · exact .inr hz
  · rcases List.mem_append.1 h with h | h
    · exact .inr h
    · exact .inl (List.mem_singleton.1 h)
theorem putF_pair {F : List Fl} {x : Fl} {R : Fl → Fl → Prop} (hn : (F.map Fl.nm).Nodup) (hF : F.Pairwise R) (h1 : ∀ y ∈ F, R y x) (h2 : ∀ y ∈ F, R x y) : (putF F x).Pairwise R := by
  unfold putF
  split
  · rw [List.pairwise_map]
    have hnd : F.Pairwise fun a b => a.nm ≠ b.nm := by
      unfold List.Nodup at hn
      rwa [List.pairwise_map] at hn
    refine (hF.and hnd).imp_of_mem fun {a c} ha hc hac => ?_
    by_cases e1 : a.nm = x.nm
    · rw [if_pos e1, if_neg (fun e => hac.2 (e1.trans e.symm))]; exact h2 c hc
    · rw [if_neg e1]
      by_cases e2 : c.nm = x.nm
      · rw [if_pos e2]; exact h1 a ha
      · rw [if_neg e2]; exact hac.1
  · exact List.pairwise_append.2 ⟨hF, by simp, fun a ha b hb => by rw [List.mem_singleton.1 hb]; exact h1 a ha⟩
theorem TabAt.put {w w' : World} {m : Nat} {F : List Fl} {x : Fl} (h : TabAt w m F) (hm : MapAt w' m tkey (upd (F.map flEnt) x.nm (fptr x))) (hk : Kept w.heap.size m w w') (ho : ObjAt w x.f 69 #[x.v, .int .i64 (x.safe : Nat)]) (hr : RowOf w x.v x.b x.g)
    (hf : ∀ y ∈ F, y.f ≠ x.f) (hg : ∀ y ∈ F, x.g = none ∨ x.g ≠ y.g) : TabAt w' m (putF F x) := by
  have hks : KeptS (fun k => k = m) w w' := KeptS.of_kept hk rfl
  have hxm : x.f ≠ m := ho.ne_map h.map
  have hxg : x.g ≠ some m := fun e => by
    rw [e] at hr
    exact hr.ne_map h.map rfl
  refine ⟨by rw [← putF_ent F x h.names]; exact hm, fun y hy => ?_, fun y hy => ?_, ?_, ?_⟩
  · rcases putF_mem hy with rfl | hy
    · exact ho.keptS hks hxm
    · exact (h.obj y hy).keptS hks (h.off y hy).1
  · rcases putF_mem hy with rfl | hy
    · exact hr.keptS hks (fun k e q => hxg (by rw [e, q]))
    · exact (h.row y hy).keptS hks (fun k e q => (h.off y hy).2 (by rw [e, q]))
  · unfold List.Nodup
    rw [List.pairwise_map]
    refine putF_pair h.names ?_ (fun y hy => hf y hy) (fun y hy => (hf y hy).symm)
    have := h.fd
    unfold List.Nodup at this
    rwa [List.pairwise_map] at this
  · refine putF_pair h.names h.gd (fun y hy => ?_) hg
    rcases hg y hy with g | g
    · rw [g]
      cases y.g with
      | none => exact .inl rfl
      | some k => exact .inr (by simp)
    · exact .inr (Ne.symm g)
theorem putF_has {m : Nat} {F : List Fl} {x : Fl} {k : Nat} (h : TabHas m (putF F x) k) : TabHas m F k ∨ k = x.f ∨ x.g = some k := by
  rcases h with h | ⟨y, hy, h⟩
  · exact .inl (.inl h)
  · rcases putF_mem hy with rfl | hy
    · exact .inr (h.imp_left Eq.symm)
    · exact .inl (.inr ⟨y, hy, h⟩)

/-- What Rename tells. -/
def renE (F : List Fl) (a b : List UInt8) : Int := if fname a && fname b then (if (fileOf F a).isSome then 0 else 31) else 30
theorem delF_fd {F : List Fl} {x : Fl} (h : (F.map Fl.f).Nodup) (hx : x ∈ F) : ∀ y ∈ delF F x.nm, y.f ≠ x.f := fun y hy e => by
  obtain ⟨h1, h2⟩ := delF_mem hy
  exact h2 (by rw [inj_f h h1 hx e])

set_option maxHeartbeats 2000000 in
theorem disk_rename (d m : Nat) (cap : Int) (F : List Fl) (s t : ByteArray) (w : World) (h : DkAt w d m cap F) :
    Calls Try.prog 16 #[.pointer (some ⟨d, 0, none⟩), .string s, .string t] w fun e w' => ∃ A', DiskPost w d m cap F (renE F (bl s) (bl t)) A' e w' ∧ (renE F (bl s) (bl t) ≠ 0 → A' = abs F) ∧ ∀ x, renE F (bl s) (bl t) = 0 → fileOf F (bl s) = some x → A' = putA (delA (abs F) (bl s)) (bl t, x.b, x.safe) := by
  obtain ⟨z, hz⟩ : ∃ z, z = renE F (bl s) (bl t) := ⟨_, rfl⟩
  rw [← hz]
  have HZ := hid hz
  have HH := hid h
  clear h hz
  go_enter Try.func16, Try.ntmps16
  go_wp2_with fail
  refine (right_name s w).mono ?_
  rintro e w1 ⟨rfl, hb⟩
  have HH1 := hid (HH.out.below hb)
  have HM1 := hid (Moved.below (m := m) (F := F) hb)
  clear hb HH
  cases hf : fname s.data.toList with
  | false =>
    have HE : Hid (z = 30) := by show _ = _; rw [HZ.out]; unfold renE; rw [show fname (bl s) = false from hf]; rfl
    clear hf HZ
    go_wp2_with fail
    go_ret
    exact ⟨_, ⟨by rw [HE.out]; rfl, F, HH1.out, rfl, HM1.out⟩, fun _ => rfl, fun x h => by rw [HE.out] at h; cases h⟩
  | true =>
  go_wp2_with fail
  refine (right_name t w1).mono ?_
  rintro e w2 ⟨rfl, hb⟩
  have HH2 := hid (HH1.out.below hb)
  have HM2 := hid (HM1.out.trans (Moved.below (m := m) (F := F) hb))
  clear hb HH1 HM1
  cases hg : fname t.data.toList with
  | false =>
    have HE : Hid (z = 30) := by show _ = _; rw [HZ.out]; unfold renE; rw [show fname (bl t) = false from hg, Bool.and_false]; rfl
    clear hf hg HZ
    go_wp2_with fail
    go_ret
    exact ⟨_, ⟨by rw [HE.out]; rfl, F, HH2.out, rfl, HM2.out⟩, fun _ => rfl, fun x h => by rw [HE.out] at h; cases h⟩
  | true =>
    have HE0 : Hid (z = if (fileOf F (bl s)).isSome then 0 else 31) := by show _ = _; rw [HZ.out]; unfold renE; rw [show fname (bl t) = true from hg, show fname (bl s) = true from hf]; rfl
    have hl2 := run_file HH2.out.tab s
    have d0 := HH2.out.obj.cell 0 _ rfl
    clear hf hg HZ
    cases hff : fileOf F (bl s) with
    | none =>
      rw [hff] at hl2
      simp only [Option.map_none, Option.getD_none] at hl2
      have HE : Hid (z = 31) := by show _ = _; rw [HE0.out, hff]; rfl
      clear hff HE0
      go_wp2_with fail
      go_ret
      exact ⟨_, ⟨by rw [HE.out]; rfl, F, HH2.out, rfl, HM2.out⟩, fun _ => rfl, fun x h => by rw [HE.out] at h; cases h⟩
    | some x =>
      rw [hff] at hl2
      simp only [Option.map_some, Option.getD_some, fptr] at hl2
      have HE : Hid (z = 0) := by show _ = _; rw [HE0.out, hff]; rfl
      obtain ⟨hx, hxn⟩ := fileOf_mem hff
      have HX := hid hx
      have HXN := hid hxn
      obtain ⟨w3, hdel, hm3, hk3, hz3, -⟩ := run_del (P := Try.prog) Try.underlying55 keyT HH2.out.tab.map (bl s)
      rw [← str_tkey] at hdel
      have ht3 := HH2.out.tab.del hm3 hk3
      have hk3s : KeptS (fun k => k = m) w2 w3 := KeptS.of_kept hk3 rfl
      have ho3 := (HH2.out.tab.obj x hx).keptS hk3s (HH2.out.tab.off x hx).1
      have hr3 := (HH2.out.tab.row x hx).keptS hk3s (fun k e q => (HH2.out.tab.off x hx).2 (by rw [e, q]))
      obtain ⟨w4, hup, hm4, hk4, hz4, -⟩ := run_upd (P := Try.prog) Try.underlying55 keyT ht3.map (bl t) (.pointer (some ⟨x.f, 0, none⟩))
      rw [← str_tkey] at hup
      have ht4 := ht3.put (x := { x with nm := bl t }) hm4 hk4 ho3 hr3 (by have := delF_fd HH2.out.tab.fd hx; rw [hxn] at this; exact this) (fun y hy => by
        obtain ⟨h1, h2⟩ := delF_mem hy
        show x.g = none ∨ x.g ≠ y.g
        cases hxg : x.g with
        | none => exact .inl rfl
        | some k => exact .inr (fun e => gd_mem HH2.out.tab.gd hx h1 (fun q => h2 (by rw [← q, hxn])) hxg e.symm))
      have hk4s : KeptS (fun k => k = m) w2 w4 := hk3s.next (KeptS.of_kept hk4 rfl)
      have hdm := HH2.out.obj.ne_map HH2.out.tab.map
      have d3 := (HH2.out.obj.keptS hk3s hdm).cell 0 _ rfl
      have HD4 := hid (HH2.out.obj.keptS hk4s hdm)
      have HT4 := hid ht4
      have HM4 : Hid (Moved w w4 m F (putF (delF F (bl s)) { x with nm := bl t })) := HM2.out.trans ⟨fun k hk => by
        rcases putF_has hk with h | h
        · exact .inl (delF_has h)
        · exact .inl (.inr ⟨x, HX.out, h.imp_left Eq.symm⟩), hk4s.imp (fun k e => .inl e)⟩
      clear hx hxn ht3 hk3s ho3 hr3 ht4 hk4s hdm hm3 hk3 hz3 hm4 hk4 hz4
      have HFF := hid hff
      clear hff HE0
      go_wp2_with fail
      go_ret
      exact ⟨_, ⟨by rw [HE.out]; rfl, _, ⟨HD4.out, HT4.out⟩, rfl, HM4.out⟩, fun h => absurd HE.out h, fun y _ hy => by
        rw [HFF.out] at hy
        cases hy
        rw [abs_putF, abs_delF]⟩
end Go.Proofs.Ytibhkkfbhbnmeaa
