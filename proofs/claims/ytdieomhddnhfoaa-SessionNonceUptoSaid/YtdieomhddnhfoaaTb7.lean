/-
  SessionNonce: the plain law, the calls as arguments.
-/
import Derived.Test.YtdieomhddnhfoaaTb6
import Derived.Test.YtdieomhddnhfoaaMapS
import Derived.Test.YtdieomhddnhfoaaArgs
namespace Go.Proofs.Ytdieomhddnhfoaa
open Go.RowKit
set_option maxRecDepth 20000
set_option linter.unusedVariables false

/-- A call. -/
structure Nq where
  kind : Int
  n : Int
  a : Int
  b : Int
  nm : List UInt8
  rep : Value
  ks : List (List UInt8 × Int)
  ka : Option Addr
  kc : Nat
def nqCells (o : Nq) : List Value := [.int .i64 o.kind, .int .i64 o.n, .int .i64 o.a, .int .i64 o.b, tkey o.nm, o.rep, .slice o.ka o.ks.length o.kc]
structure NqAt (w : World) (o : Nq) : Prop where
  rep : ∃ a n c, o.rep = .slice a n c
  keys : RowAt w o.ka (o.ks.flatMap kC)
  len : o.ks.length ≤ 1048576
theorem NqAt.below {w w' : World} {o : Nq} (h : NqAt w o) (hb : Below w.heap.size w w') : NqAt w' o := ⟨h.rep, h.keys.below hb, h.len⟩
def TKey : Ty := .pair .str (.pair (.int .i64) .unit)
def TNq : Ty := .pair (.int .i64) (.pair (.int .i64) (.pair (.int .i64) (.pair (.int .i64) (.pair .str (.pair (.slice (.int .u8)) (.pair (.slice TKey) .unit))))))
theorem keys_of_rd {w : World} {v : Value} {l : List TKey.El} (h : Rd w (.slice TKey) [v] l) : ∃ (a : Option Addr) (c : Nat), v = .slice a l.length c ∧ RowAt w a ((l.map fun x => (x.1, x.2.1)).flatMap kC) := by
  obtain ⟨a, cap, vss, hv, h0, h1, h2, hl, hr, hx⟩ := h
  simp only [List.cons.injEq, and_true] at hv
  subst hv
  have e : vss = l.map fun x => kC (x.1, x.2.1) := by
    refine List.ext_getElem (by simp [hl]) (fun j h1 h2 => ?_)
    obtain ⟨-, c1, c2, e, l1, ⟨rfl, -⟩, c3, c4, rfl, l3, ⟨rfl, -⟩, rfl⟩ := hx j vss[j] (l[j]'(by omega)) (List.getElem?_eq_getElem h1) (List.getElem?_eq_getElem _)
    rw [e, List.getElem_map]; rfl
  rw [e] at hr
  exact ⟨a, cap, rfl, by rw [List.flatMap_def, List.map_map]; exact hr⟩
theorem nqs_of {w : World} : ∀ (l : List TNq.El) (vss : List (List Value)), vss.length = l.length →
    (∀ (j : Nat) v x, vss[j]? = some v → l[j]? = some x → v.length = 7 ∧ Rd w TNq v x) → (∀ x ∈ l, List.length x.2.2.2.2.2.2.1 ≤ 1048576) →
    ∃ os : List Nq, os.length = l.length ∧ vss = os.map nqCells ∧ ∀ o ∈ os, NqAt w o
  | [], [], _, _, _ => ⟨[], rfl, rfl, by simp⟩
  | [], _ :: _, h, _, _ => by simp at h
  | _ :: _, [], h, _, _ => by simp at h
  | x :: l, v :: vss, h, hr, hlen => by
    obtain ⟨os, h1, h2, h3⟩ := nqs_of l vss (by simpa using h) (fun j v x hv hx => hr (j + 1) v x hv hx) (fun y hy => hlen y (List.mem_cons_of_mem _ hy))
    obtain ⟨-, hc⟩ := hr 0 v x rfl rfl
    obtain ⟨c1, c2, rfl, -, ⟨rfl, -⟩, c3, c4, rfl, -, ⟨rfl, -⟩, c5, c6, rfl, -, ⟨rfl, -⟩, c7, c8, rfl, -, ⟨rfl, -⟩, c9, c10, rfl, -, ⟨rfl, -⟩, c11, c12, rfl, l11, hd, c13, c14, rfl, l13, hk, rfl⟩ := hc
    obtain ⟨d, rfl⟩ : ∃ d, c11 = [d] := List.length_eq_one_iff.1 l11
    obtain ⟨k, rfl⟩ : ∃ d, c13 = [d] := List.length_eq_one_iff.1 l13
    obtain ⟨ra, rc, rss, hv, -⟩ := hd
    simp only [List.cons.injEq, and_true] at hv
    subst hv
    obtain ⟨ka, kc, rfl, k3⟩ := keys_of_rd hk
    refine ⟨⟨x.1, x.2.1, x.2.2.1, x.2.2.2.1, x.2.2.2.2.1, .slice ra (List.length x.2.2.2.2.2.1) rc, x.2.2.2.2.2.2.1.map fun y => (y.1, y.2.1), ka, kc⟩ :: os, by simp [h1], ?_, ?_⟩
    · rw [List.map_cons, h2]
      unfold nqCells
      rw [List.length_map]; rfl
    · intro o ho
      rcases List.mem_cons.1 ho with rfl | ho
      · exact ⟨⟨_, _, _, rfl⟩, k3, by rw [List.length_map]; exact hlen x (List.mem_cons_self ..)⟩
      · exact h3 o ho
theorem nscript_of {W : World} {v : Value} {l : List TNq.El} (h : Rd W (.slice TNq) [v] l) (hlen : ∀ x ∈ l, List.length x.2.2.2.2.2.2.1 ≤ 1048576) : ∃ (a : Option Addr) (c : Nat) (os : List Nq), v = .slice a os.length c ∧ os.length = l.length ∧ RowAt W a (os.flatMap nqCells) ∧ ∀ o ∈ os, NqAt W o := by
  obtain ⟨a, cap, vss, hv, h0, h1, h2, hl, hr, hx⟩ := h
  obtain ⟨os, e1, e2, e3⟩ := nqs_of l vss hl (fun j v x hv hx' => hx j v x hv hx') hlen
  simp only [List.cons.injEq, and_true] at hv
  subst hv
  refine ⟨a, cap, os, by rw [e1], e1, ?_, e3⟩
  rw [e2] at hr
  exact hr
theorem row_nq {w : World} {a : Option Addr} {os : List Nq} (h : RowAt w a (os.flatMap nqCells)) {j : Nat} (hj : j < os.length) : ∃ b o, a = some ⟨b, o, none⟩ ∧ ∀ i v, i < 7 → (nqCells os[j])[i]? = some v → w.cell? ⟨b, o + j * 7 + i, none⟩ = some v := by
  have key : ∀ i v, (nqCells os[j])[i]? = some v → i < 7 → ∃ b o, a = some ⟨b, o, none⟩ ∧ w.cell? ⟨b, o + (j * 7 + i), none⟩ = some v := fun i v hv hi =>
    h (j * 7 + i) v (by
      have : ∀ (os : List Nq) (j i : Nat) (hj : j < os.length), i < 7 → (os.flatMap nqCells)[j * 7 + i]? = (nqCells os[j])[i]? := by
        intro os
        induction os with
        | nil => intro j i hj; simp at hj
        | cons x os ih =>
          intro j i hj hi
          have hl : (nqCells x).length = 7 := rfl
          rw [List.flatMap_cons]
          cases j with
          | zero => rw [List.getElem?_append_left (by rw [hl]; omega)]; simp
          | succ j =>
            rw [List.getElem?_append_right (by rw [hl]; omega), hl, show (j + 1) * 7 + i - 7 = j * 7 + i by omega, ih j i (by simpa using hj) hi]
            rfl
      rw [this os j i hj hi]; exact hv)
  obtain ⟨b, o, rfl, h0⟩ := key 0 _ rfl (by decide)
  refine ⟨b, o, rfl, fun i v hi hv => ?_⟩
  obtain ⟨b', o', e, h1⟩ := key i v hv hi
  simp only [Option.some.injEq, Addr.mk.injEq, and_true] at e
  obtain ⟨rfl, rfl⟩ := e
  rw [Nat.add_assoc]; exact h1

/-- What holds of the sessions, and of the keys that were given. -/
structure GoodT (G : List (List UInt8 × Int)) (H : List Hs) : Prop where
  mem : ∀ h ∈ H, ∀ s ∈ h.live, (h.nm, s.n) ∈ G
  top : ∀ k ∈ G, ∃ h ∈ H, h.nm = k.1 ∧ k.2 ≤ h.last
  len : ∀ h ∈ H, h.live.length ≤ 64
  nd : ∀ h ∈ H, (h.live.map Sn.nonce).Nodup
  rv : ∀ h ∈ H, ∀ s ∈ h.live, s.rv = .slice none 0 0
theorem GoodT.nil : GoodT [] [] := ⟨by simp, by simp, by simp, by simp, by simp⟩
theorem GoodT.congr {G G' : List (List UInt8 × Int)} {H : List Hs} (h : GoodT G H) (e : ∀ k, k ∈ G' ↔ k ∈ G) : GoodT G' H :=
  ⟨fun x hx s hs => (e _).2 (h.mem x hx s hs), fun k hk => h.top k ((e k).1 hk), h.len, h.nd, h.rv⟩
theorem Sub.back : ∀ {H H' : List Hs}, Sub H H' → ∀ h' ∈ H', ∃ h ∈ H, SubH h h'
  | [], [], _, _, h => by simp at h
  | x :: H, x' :: H', ⟨a, b⟩, h', hm => by
    rcases List.mem_cons.1 hm with rfl | hm
    · exact ⟨x, List.mem_cons_self .., a⟩
    · obtain ⟨h, hh, e⟩ := Sub.back b h' hm
      exact ⟨h, List.mem_cons_of_mem _ hh, e⟩
  | [], _ :: _, h, _, _ => h.elim
  | _ :: _, [], h, _, _ => h.elim
theorem Sub.forth : ∀ {H H' : List Hs}, Sub H H' → ∀ h ∈ H, ∃ h' ∈ H', SubH h h'
  | [], [], _, _, h => by simp at h
  | x :: H, x' :: H', ⟨a, b⟩, h, hm => by
    rcases List.mem_cons.1 hm with rfl | hm
    · exact ⟨x', List.mem_cons_self .., a⟩
    · obtain ⟨h', hh, e⟩ := Sub.forth b h hm
      exact ⟨h', List.mem_cons_of_mem _ hh, e⟩
  | [], _ :: _, h, _, _ => h.elim
  | _ :: _, [], h, _, _ => h.elim
theorem Sub.len : ∀ {H H' : List Hs}, Sub H H' → H'.length = H.length
  | [], [], _ => rfl
  | _ :: _, _ :: _, ⟨_, b⟩ => by simp [Sub.len b]
  | [], _ :: _, h => h.elim
  | _ :: _, [], h => h.elim
theorem SubH.kid {h h' : Hs} (e : SubH h h') {s' : Sn} (hs : s' ∈ h'.live) : ∃ s ∈ h.live, pr s = pr s' := by
  have := e.2.2.subset (List.mem_map.2 ⟨s', hs, rfl⟩)
  obtain ⟨s, h1, h2⟩ := List.mem_map.1 this
  exact ⟨s, h1, h2⟩
theorem GoodT.sub {G : List (List UInt8 × Int)} {H H' : List Hs} (h : GoodT G H) (e : Sub H H') : GoodT G H' := by
  refine ⟨fun x' hx' s' hs' => ?_, fun k hk => ?_, fun x' hx' => ?_, fun x' hx' => ?_, fun x' hx' s' hs' => ?_⟩
  · obtain ⟨x, hx, ex⟩ := Sub.back e x' hx'
    obtain ⟨s, hs, es⟩ := ex.kid hs'
    simp only [pr, Prod.mk.injEq] at es
    rw [ex.1, ← es.1]; exact h.mem x hx s hs
  · obtain ⟨x, hx, e1, e2⟩ := h.top k hk
    obtain ⟨x', hx', ex⟩ := Sub.forth e x hx
    exact ⟨x', hx', ex.1.trans e1, by rw [ex.2.1]; exact e2⟩
  · obtain ⟨x, hx, ex⟩ := Sub.back e x' hx'
    have h1 := ex.2.2.length_le
    rw [List.length_map, List.length_map] at h1
    have h2 := h.len x hx
    omega
  · obtain ⟨x, hx, ex⟩ := Sub.back e x' hx'
    have h1 := ex.2.2.map (fun p => p.2.1)
    rw [List.map_map, List.map_map] at h1
    exact (h.nd x hx).sublist h1
  · obtain ⟨x, hx, ex⟩ := Sub.back e x' hx'
    obtain ⟨s, hs, es⟩ := ex.kid hs'
    simp only [pr, Prod.mk.injEq] at es
    rw [← es.2.2]; exact h.rv x hx s hs
theorem GoodT.opened {w : World} {bt mh : Nat} {G : List (List UInt8 × Int)} {H H' : List Hs} {nm : List UInt8} {nonce : Int} {x : Hs} {s : Sn} (h : GoodT G H) (ht : TabT w bt mh H) (o : Opened H nm nonce x s H') :
    (nm, x.last + 1) ∉ G ∧ GoodT ((nm, x.last + 1) :: G) H' ∧ H'.length ≤ H.length + 1 := by
  obtain ⟨e1, e2, e3, e4, e5, e6, ec⟩ := o
  have hnot : (nm, x.last + 1) ∉ G := fun hm => by
    obtain ⟨y, hy, y1, y2⟩ := h.top _ hm
    dsimp only at y1 y2
    rcases ec with ⟨hx, -⟩ | ⟨hn, -⟩
    · have := nodup_inj ht.names hy hx (y1.trans e1.symm)
      subst this; omega
    · exact hn y hy y1
  have hmore : ∀ t ∈ (more x s).live, t ∈ x.live ∨ t = s := fun t ht => by
    rcases List.mem_append.1 ht with h | h
    · exact .inl h
    · exact .inr (List.mem_singleton.1 h)
  have hnd : x.live = [] ∨ x ∈ H → ((more x s).live.map Sn.nonce).Nodup := fun hx => by
    show ((x.live ++ [s]).map Sn.nonce).Nodup
    rw [List.map_append]
    refine List.nodup_append.2 ⟨?_, by simp, fun a ha b hb e => ?_⟩
    · rcases hx with hx | hx
      · rw [hx]; simp
      · exact h.nd x hx
    · obtain ⟨t, ht, rfl⟩ := List.mem_map.1 ha
      simp only [List.map_cons, List.map_nil, List.mem_singleton] at hb
      exact e6 t ht (by rw [e, hb, e3])
  have hlen : (more x s).live.length ≤ 64 := by
    show (x.live ++ [s]).length ≤ 64
    simp; omega
  rcases ec with ⟨hx, rfl⟩ | ⟨hn, h0, hl, rfl⟩
  · have hmem : ∀ y ∈ setH H (more x s), (y = more x s) ∨ (y ∈ H ∧ y.nm ≠ nm) := fun y hy => by
      obtain ⟨z, hz, rfl⟩ := List.mem_map.1 hy
      by_cases e : z.nm = (more x s).nm
      · rw [if_pos e]; exact .inl rfl
      · rw [if_neg e]; exact .inr ⟨hz, fun q => e (q.trans e1.symm)⟩
    have hin : more x s ∈ setH H (more x s) := List.mem_map.2 ⟨x, hx, if_pos rfl⟩
    refine ⟨hnot, ⟨fun y hy t ht' => ?_, fun k hk => ?_, fun y hy => ?_, fun y hy => ?_, fun y hy t ht' => ?_⟩, by unfold setH; simp⟩
    · rcases hmem y hy with rfl | ⟨hy, -⟩
      · rcases hmore t ht' with ht' | rfl
        · exact List.mem_cons_of_mem _ (h.mem x hx t ht')
        · rw [e2, show (more x t).nm = nm from e1]; exact List.mem_cons_self ..
      · exact List.mem_cons_of_mem _ (h.mem y hy t ht')
    · rcases List.mem_cons.1 hk with rfl | hk
      · exact ⟨_, hin, e1, Int.le_refl _⟩
      · obtain ⟨y, hy, y1, y2⟩ := h.top k hk
        by_cases e : y.nm = nm
        · have := nodup_inj ht.names hy hx (e.trans e1.symm)
          subst this
          exact ⟨_, hin, y1, by show k.2 ≤ y.last + 1; omega⟩
        · exact ⟨y, List.mem_map.2 ⟨y, hy, if_neg (fun q => e (q.trans e1))⟩, y1, y2⟩
    · rcases hmem y hy with rfl | ⟨hy, -⟩
      · exact hlen
      · exact h.len y hy
    · rcases hmem y hy with rfl | ⟨hy, -⟩
      · exact hnd (.inr hx)
      · exact h.nd y hy
    · rcases hmem y hy with rfl | ⟨hy, -⟩
      · rcases hmore t ht' with ht' | rfl
        · exact h.rv x hx t ht'
        · exact e4
      · exact h.rv y hy t ht'
  · have hmem : ∀ y ∈ H ++ [more x s], (y = more x s) ∨ y ∈ H := fun y hy => by
      rcases List.mem_append.1 hy with h | h
      · exact .inr h
      · exact .inl (List.mem_singleton.1 h)
    refine ⟨hnot, ⟨fun y hy t ht' => ?_, fun k hk => ?_, fun y hy => ?_, fun y hy => ?_, fun y hy t ht' => ?_⟩, by simp⟩
    · rcases hmem y hy with rfl | hy
      · rcases hmore t ht' with ht' | rfl
        · rw [hl] at ht'; simp at ht'
        · rw [e2, show (more x t).nm = nm from e1]; exact List.mem_cons_self ..
      · exact List.mem_cons_of_mem _ (h.mem y hy t ht')
    · rcases List.mem_cons.1 hk with rfl | hk
      · exact ⟨more x s, List.mem_append_right _ (List.mem_singleton.2 rfl), e1, Int.le_refl _⟩
      · obtain ⟨y, hy, y1, y2⟩ := h.top k hk
        exact ⟨y, List.mem_append_left _ hy, y1, y2⟩
    · rcases hmem y hy with rfl | hy
      · exact hlen
      · exact h.len y hy
    · rcases hmem y hy with rfl | hy
      · exact hnd (.inl hl)
      · exact h.nd y hy
    · rcases hmem y hy with rfl | hy
      · rcases hmore t ht' with ht' | rfl
        · rw [hl] at ht'; simp at ht'
        · exact e4
      · exact h.rv y hy t ht'

theorem mem_upd' {κ : Type} [DecidableEq κ] {l : List (κ × Value)} {k : κ} {v : Value} {p : κ × Value} (h : p ∈ upd l k v) : p ∈ l ∨ p = (k, v) := by
  unfold upd at h
  cases hf : l.findIdx? (fun p => p.1 == k) with
  | none => rw [hf] at h; rcases List.mem_append.1 h with h | h
            · exact .inl h
            · exact .inr (by simpa using h)
  | some j => rw [hf] at h; exact List.mem_or_eq_of_mem_set h
/-- The table and the keys that were given, in memory. -/
structure NSt (w wr : World) (bt mh gm : Nat) (E : List ((List UInt8 × Int) × Value)) (H : List Hs) : Prop where
  tab : TabT wr bt mh H
  map : MapAt wr gm skey E
  tru : ∀ p ∈ E, p.2 = .bool true
  bel : Below w.heap.size w wr
  far : ∀ k, TabHas bt mh H k → w.heap.size ≤ k ∧ k ≠ gm
  gmf : w.heap.size ≤ gm
theorem NSt.below {w wr wr' : World} {bt mh gm : Nat} {E : List ((List UInt8 × Int) × Value)} {H : List Hs} (h : NSt w wr bt mh gm E H) (hb : Below wr.heap.size wr wr') : NSt w wr' bt mh gm E H :=
  ⟨h.tab.below hb, h.map.below hb, h.tru, h.bel.trans (hb.mono h.bel.size), h.far, h.gmf⟩
theorem NSt.moved {w wr wr' : World} {bt mh gm : Nat} {E : List ((List UInt8 × Int) × Value)} {H H' : List Hs} (h : NSt w wr bt mh gm E H) (ht : TabT wr' bt mh H') (hm : MovedT wr wr' bt mh H H') : NSt w wr' bt mh gm E H' := by
  refine ⟨ht, h.map.keptS hm.2 (fun e => (h.far gm e).2 rfl), h.tru, ?_, fun k hk => ?_, h.gmf⟩
  · exact h.bel.trans (hm.2.below (B := w.heap.size) (fun k hk => (h.far k hk).1) h.bel.size)
  · rcases hm.1 k hk with q | q
    · exact h.far k q
    · have h1 := h.bel.size
      have h2 := h.map.lt
      exact ⟨by omega, by omega⟩
theorem NSt.give {w wr wr' : World} {bt mh gm : Nat} {E : List ((List UInt8 × Int) × Value)} {H : List Hs} {k : List UInt8 × Int} (h : NSt w wr bt mh gm E H) (hm : MapAt wr' gm skey (upd E k (.bool true))) (hk : Kept wr.heap.size gm wr wr') : NSt w wr' bt mh gm (upd E k (.bool true)) H :=
  ⟨h.tab.keptS (KeptS.of_kept (S := fun i => i = gm) hk rfl) (fun i hi e => (h.far i hi).2 e), hm, fun p hp => by
    rcases mem_upd' hp with q | rfl
    · exact h.tru p q
    · rfl, below_kept h.bel hk h.gmf h.bel.size, h.far, h.gmf⟩
theorem look_given' {κ : Type} [DecidableEq κ] {E : List (κ × Value)} (h : ∀ p ∈ E, p.2 = .bool true) (k : κ) : (look E k).getD (.bool false) = .bool (decide (k ∈ E.map (·.1))) := by
  unfold look
  cases e : E.find? (fun p => p.1 == k) with
  | none =>
    have hn : k ∉ E.map (·.1) := fun hm => by
      obtain ⟨p, hp, rfl⟩ := List.mem_map.1 hm
      have := List.find?_eq_none.1 e p hp
      simp at this
    rw [decide_eq_false hn]; rfl
  | some p =>
    have h1 := List.mem_of_find?_eq_some e
    have h2 : p.1 = k := by simpa using List.find?_some e
    have hm : k ∈ E.map (·.1) := List.mem_map.2 ⟨p, h1, h2⟩
    rw [decide_eq_true hm]
    show p.2 = _
    exact h p h1
theorem given_yes {κ : Type} [DecidableEq κ] {E : List (κ × Value)} (h : ∀ p ∈ E, p.2 = .bool true) {k : κ} (hk : k ∈ E.map (·.1)) : (look E k).getD (.bool false) = .bool true := by
  rw [look_given' h k, decide_eq_true hk]
theorem given_no {κ : Type} [DecidableEq κ] {E : List (κ × Value)} (h : ∀ p ∈ E, p.2 = .bool true) {k : κ} (hk : k ∉ E.map (·.1)) : (look E k).getD (.bool false) = .bool false := by
  rw [look_given' h k, decide_eq_false hk]
theorem keys_at {w : World} {bt mh : Nat} {H : List Hs} {nm : List UInt8} (ht : TabT w bt mh H) {i : Nat} (hi : i < (keysOf H nm).length) : ∃ x s, seekH H nm = some x ∧ seekS x.live (keysOf H nm)[i].2 = some s ∧ (keysOf H nm)[i] = (nm, s.n) ∧ s ∈ x.live ∧ x ∈ H ∧ x.nm = nm := by
  have hm := List.getElem_mem hi
  cases e : seekH H nm with
  | none =>
    have h : keysOf H nm = [] := by unfold keysOf; rw [e]
    rw [h] at hi; simp at hi
  | some x =>
    have h : keysOf H nm = (sortI (x.live.map Sn.n)).map fun n => (nm, n) := by unfold keysOf; rw [e]
    obtain ⟨h1, h2⟩ := seekH_some e
    have hm2 : (keysOf H nm)[i] ∈ (sortI (x.live.map Sn.n)).map fun n => (nm, n) := by rw [← h]; exact hm
    obtain ⟨n, hn, en⟩ := List.mem_map.1 hm2
    obtain ⟨s, hs, rfl⟩ := List.mem_map.1 (sortI_mem.1 hn)
    refine ⟨x, s, rfl, ?_, en.symm, hs, h1, h2⟩
    rw [← en]
    exact seekS_of (ht.hs x h1).nums hs
theorem keys_two {w : World} {bt mh : Nat} {G : List (List UInt8 × Int)} {H : List Hs} {nm : List UInt8} (ht : TabT w bt mh H) (g : GoodT G H) {i k : Nat} (hi : i < (keysOf H nm).length) (hk : k < i) {x x' : Hs} {s s' : Sn}
    (h1 : seekH H nm = some x) (h2 : seekS x.live (keysOf H nm)[i].2 = some s) (h3 : seekH H nm = some x') (h4 : seekS x'.live ((keysOf H nm)[k]'(by omega)).2 = some s') : s'.n < s.n ∧ s'.nonce ≠ s.nonce := by
  have e : x = x' := Option.some.inj (h1.symm.trans h3)
  subst e
  obtain ⟨m1, m2⟩ := seekS_some h2
  obtain ⟨m3, m4⟩ := seekS_some h4
  have h : keysOf H nm = (sortI (x.live.map Sn.n)).map fun n => (nm, n) := by unfold keysOf; rw [h1]
  have hp : (keysOf H nm).Pairwise fun a b => a.2 < b.2 := by
    rw [h, List.pairwise_map]
    exact sortI_lt (ht.hs x (seekH_some h1).1).nums
  have hlt := List.pairwise_iff_getElem.1 hp k i (by omega) hi hk
  rw [← m2, ← m4] at hlt
  refine ⟨hlt, fun e => ?_⟩
  have := nodup_inj (g.nd x (seekH_some h1).1) m3 m1 e
  subst this; omega
end Go.Proofs.Ytdieomhddnhfoaa
